/-
  ReplicaCol: whatever the arguments, the call returns true, and all reads as it did. No condition.
-/
import Derived.Test.YtbeckfnhgeclnaaItSort
import Derived.Test.YtbeckfnhgeclnaaIts
import Derived.BigQuiet
import Derived.Deep.QuietTactic
import Derived.Test.YtbeckfnhgeclnaaSinceC
import Derived.Test.YtbeckfnhgeclnaaKnowsP
import Derived.Test.YtbeckfnhgeclnaaFoldP
import Derived.Test.YtbeckfnhgeclnaaRColS
import Derived.Test.YtbeckfnhgeclnaaColLift
import Derived.Test.YtbeckfnhgeclnaaColP
import Derived.Test.YtbeckfnhgeclnaaLightR
import Derived.Test.YtbeckfnhgeclnaaRColA
import Derived.Test.YtbeckfnhgeclnaaRepP
import Derived.Maps.Views
import Derived.Maps.OwnOps
import Derived.Test.YtbeckfnhgeclnaaCards
import Derived.Deep.LoopGhost
import Derived.Deep.CutRange
import Derived.Deep.Cut
import Derived.StillTailTactics
import Derived.Test.YtbeckfnhgeclnaaOmHEntItem
set_option linter.unusedVariables false
set_option linter.unusedSimpArgs false
/-
  Split: the program's, the reference's.
-/
namespace Go.Proofs.Ytbeckfnhgeclnaa
open Go.RowKit Go.Lib

def verIs (l : List It) (v : Int) : Bool := l.any fun x => x.ver == v
theorem verIs_snoc (l : List It) (x : It) (v : Int) : verIs (l ++ [x]) v = (verIs l v || (x.ver == v)) := by simp [verIs]
/-- May the list be cut at n? -/
def cutOk (l : List It) (n : Nat) : Bool := !verIs (l.drop n) (l.getD (n - 1) default).ver
def splitG (l : List It) : Nat → Nat → Nat
  | 0, _ => l.length
  | f + 1, n => if n < l.length then (if cutOk l n = true then n else splitG l f (n + 1)) else l.length
def splitV (l : List It) (v : Int) : Nat := splitG l (l.length - v.toNat) v.toNat
def splitP (l : List It) (most : Int) : Nat := splitV l (max most 1)
theorem splitV_end {l : List It} {v : Int} (h : ¬ v < l.length) (h1 : 0 ≤ v) : splitV l v = l.length := by
  unfold splitV
  rw [show l.length - v.toNat = 0 by omega]
  rfl
theorem splitV_step {l : List It} {n : Nat} (h : n < l.length) : splitV l n = if cutOk l n = true then n else splitV l ((n : Int) + 1) := by
  unfold splitV
  rw [show l.length - (n : Int).toNat = (l.length - (n + 1)) + 1 by omega, show ((n : Int)).toNat = n by omega, show ((n : Int) + 1).toNat = n + 1 by omega]
  simp only [splitG, if_pos h]
theorem splitG_le (l : List It) : ∀ f n, splitG l f n ≤ l.length
  | 0, _ => Nat.le_refl _
  | f + 1, n => by
    unfold splitG
    split
    · split
      · omega
      · exact splitG_le l f (n + 1)
    · exact Nat.le_refl _
theorem splitP_le (l : List It) (most : Int) : splitP l most ≤ l.length := splitG_le _ _ _

theorem Rds.drop {w : World} {A : Option Addr} {n : Nat} {l : List It} (h : Rds w A n 4 (itsEnc l)) (m : Nat) (hm : m < n) : ∃ g o, A = some ⟨g, o, none⟩ ∧ Rds w (some ⟨g, o + m * 4, none⟩) (n - m) 4 (itsEnc (l.drop m)) := by
  obtain ⟨g, o, hA, hg, hc⟩ := h.at_ (by omega)
  have hl := h.len
  refine ⟨g, o, hA, ⟨?_, fun _ => ⟨g, o + m * 4, rfl, hg, fun j u hu => ?_⟩⟩⟩
  · rw [itsEnc_len] at hl ⊢
    rw [List.length_drop]
    have : l.length = n := by omega
    omega
  · have e : itsEnc (l.drop m) = (itsEnc l).drop (m * 4) := (flat_drop itEnc 4 itEnc_len l m).symm
    rw [e, List.getElem?_drop] at hu
    have := hc _ _ hu
    rw [← Nat.add_assoc] at this
    exact this

theorem split1_calls (w : World) (x : It) (b : Nat) (v : Int) (hb : w.cell? ⟨b, 0, none⟩ = some (.int .i64 v)) (hl : b < w.heap.size) :
    Calls Try.prog 78 #[.agg (itEnc x).toArray, .pointer (some ⟨b, 0, none⟩)] w fun e w' => e = .returned (.bool (x.ver == v)) ∧ w.alloc (.cells (itEnc x).toArray 41) = w' := by
  obtain ⟨xu, xv, xg, xc⟩ := x
  simp only [itEnc]
  go_enter Try.func78, Try.ntmps78
  go_wp2
  go_ret
  exact ⟨rfl, rfl⟩

set_option maxRecDepth 100000 in
set_option maxHeartbeats 2000000 in
theorem ifI_calls (w : World) (A : Option Addr) (n c : Nat) (l : List It) (b : Nat) (v : Int) (hr : Rds w A n 4 (itsEnc l)) (hn : n = l.length) (hm : n ≤ 1000000) (hb : w.cell? ⟨b, 0, none⟩ = some (.int .i64 v)) (hl : b < w.heap.size) :
    Calls Try.prog 95 #[.slice A n c, .func (.func 78) #[] #[.pointer (some ⟨b, 0, none⟩)]] w fun e w' => ∃ i : Int, e = .returned (.int .i64 i) ∧ decide (0 ≤ i) = verIs l v ∧ Below w.heap.size w w' := by
  have HR := hd hr
  have HN := hd hn
  have HC := hd (fun wr (hbe : Below w.heap.size w wr) (x : It) => split1_calls wr x b v ((hbe.cell (p := ⟨b, 0, none⟩) hl).trans hb) (Nat.lt_of_lt_of_le hl hbe.size))
  clear hr hn hb
  go_enter Try.func95, Try.ntmps95
  go_wp2_with fail
  go_loopw [8, 5] (fun s8 s5 wr => ∃ k : Nat, s8 = .int .i64 k ∧ k ≤ n ∧ Hd (verIs (l.take k) v = false) ∧ Hd (Below w.heap.size w wr)) (fun s8 _ _ => n - (intOf s8).toNat)
  case atStart => exact ⟨0, rfl, Nat.zero_le _, hd rfl, hd (Below.refl _ _)⟩
  case round =>
    obtain ⟨k, rfl, hk, HV, HB⟩ := hrel
    have hki : (0 : Int) ≤ (k : Int) := by omega
    by_cases hlt : k < n
    · have hlti : (k : Int) < (n : Int) := by omega
      have hkl : k < l.length := by rw [← HN.o]; exact hlt
      obtain ⟨g, o, rfl, hg, hc⟩ := HR.o.at_ (by omega)
      obtain ⟨x, hx⟩ : ∃ x, l[k]'hkl = x := ⟨_, rfl⟩
      have HT : Hd (l.take (k + 1) = l.take k ++ [x]) := hd (by rw [List.take_succ_eq_append_getElem hkl, hx])
      have HMEM : Hd (x ∈ l) := hd (by rw [← hx]; exact List.getElem_mem hkl)
      have hcell : ∀ j u, j < 4 → (itEnc x)[j]? = some u → wr.cell? ⟨g, o + (k * 4 + j), none⟩ = some u := fun j u hj hv => (HB.o.cell (p := ⟨g, o + (k * 4 + j), none⟩) hg).trans (hc _ _ ((flat_at itEnc 4 itEnc_len l k hkl j hj).trans (by rw [hx]; exact hv)))
      have hcall := hd (HC.o wr HB.o x)
      obtain ⟨xu, xv, xg, xc⟩ := x
      have k0 := hcell 0 _ (by omega) rfl
      have k1 := hcell 1 _ (by omega) rfl
      have k2 := hcell 2 _ (by omega) rfl
      have k3 := hcell 3 _ (by omega) rfl
      rw [← Nat.add_assoc] at k0 k1 k2 k3
      rw [Nat.add_zero] at k0
      simp only [itEnc] at hcall
      obtain ⟨bq, hbq⟩ : ∃ q : Bool, (xv == v) = q := ⟨_, rfl⟩
      rw [hbq] at hcall
      have HBQ := hd hbq
      clear hcell hc hx hkl hbq
      go_wp2_with fail
      refine hcall.o.mono ?_
      rintro e w1 ⟨rfl, rfl⟩
      have HB1 := hd (HB.o.alloc HB.o.size (.cells #[.string (bs xu), .int .i64 xv, .bool xg, .string (bs xc)] 41))
      cases bq with
      | true =>
        go_wp2
        go_ret
        refine ⟨(k : Int), rfl, ?_, HB1.o⟩
        rw [decide_eq_true hki]
        symm
        simp only [verIs, List.any_eq_true]
        exact ⟨_, HMEM.o, HBQ.o⟩
      | false =>
        have HV2 : Hd (verIs (l.take (k + 1)) v = false) := hd (by rw [HT.o, verIs_snoc, HV.o]; simpa using HBQ.o)
        go_wp2
        go_roundw
        case rel => exact ⟨k + 1, by go_num, by omega, HV2, HB1⟩
        case measure => simp [intOf]; omega
    · obtain rfl : k = n := by omega
      have HE : Hd (l.take k = l) := hd (List.take_of_length_le (by rw [← HN.o]; exact Nat.le_refl _))
      go_wp2
      go_ret
      refine ⟨-1, rfl, ?_, HB.o⟩
      have := HV.o
      rw [HE.o] at this
      rw [this]
      rfl
theorem cfI_calls (w : World) (A : Option Addr) (n c : Nat) (l : List It) (b : Nat) (v : Int) (hr : Rds w A n 4 (itsEnc l)) (hn : n = l.length) (hm : n ≤ 1000000) (hb : w.cell? ⟨b, 0, none⟩ = some (.int .i64 v)) (hl : b < w.heap.size) :
    Calls Try.prog 77 #[.slice A n c, .func (.func 78) #[] #[.pointer (some ⟨b, 0, none⟩)]] w fun e w' => e = .returned (.bool (verIs l v)) ∧ Below w.heap.size w w' := by
  have hc := hd (ifI_calls w A n c l b v hr hn hm hb hl)
  clear hr hn hb
  go_enter Try.func77, Try.ntmps77
  go_wp2_with fail
  refine hc.o.mono ?_
  rintro e w1 ⟨i, rfl, hi, hb1⟩
  have HI := hd hi
  clear hi
  go_wp2
  go_ret
  exact ⟨ret_bool (by rw [← HI.o]), hb1⟩

set_option maxRecDepth 100000 in
set_option maxHeartbeats 2000000 in
theorem csplit_calls (w : World) (A : Option Addr) (n c : Nat) (l : List It) (most : Int) (hr : Rds w A n 4 (itsEnc l)) (hn : n = l.length) (hm : n ≤ 1000000) (hnc : n ≤ c) :
    Calls Try.prog 48 #[.slice A n c, .int .i64 most] w fun e w' => e = .returned (.int .i64 (splitP l most : Nat)) ∧ Below w.heap.size w w' := by
  have HR := hd hr
  have HN := hd hn
  obtain ⟨res, hres⟩ : ∃ r, splitP l most = r := ⟨_, rfl⟩
  have HP : Hd (splitV l (max most 1) = res) := hd hres
  rw [hres]
  clear hr hn hres
  go_enter Try.func48, Try.ntmps48
  go_wp2_with fail
  all_goals
    go_loopw [5] (fun s5 wr => ∃ v : Int, s5 = .int .i64 v ∧ 1 ≤ v ∧ Hd (splitV l v = res) ∧ Hd (Below w.heap.size w wr)) (fun s5 _ => n - (intOf s5).toNat)
    case atStart => exact ⟨max most 1, rfl, by omega, HP, hd (Below.refl _ _)⟩
    case round =>
      obtain ⟨v, rfl, hv1, HS, HB⟩ := hrel
      by_cases hlt : v < n
      · obtain ⟨k, rfl⟩ : ∃ k : Nat, v = k := ⟨v.toNat, by omega⟩
        have hkn : k < n := by omega
        have hkl : k < l.length := by rw [← HN.o]; exact hkn
        obtain ⟨g, o, rfl, hg, hc⟩ := HR.o.at_ (by omega)
        obtain ⟨g', o', hA', hdr⟩ := HR.o.drop k hkn
        injection hA' with hA'
        injection hA' with e1 e2
        subst e1 e2
        obtain ⟨p, hp⟩ : ∃ p : Nat, k = p + 1 := ⟨k - 1, by omega⟩
        have hpl : p < l.length := by omega
        obtain ⟨x, hx⟩ : ∃ x, l[p]'hpl = x := ⟨_, rfl⟩
        have k1 : wr.cell? ⟨g, o + (p * 4 + 1), none⟩ = some (.int .i64 x.ver) := (HB.o.cell (p := ⟨g, o + (p * 4 + 1), none⟩) hg).trans (hc _ _ ((flat_at itEnc 4 itEnc_len l p hpl 1 (by omega)).trans (by rw [hx]; rfl)))
        rw [← Nat.add_assoc] at k1
        have hgd : l.getD (k - 1) default = x := by rw [hp, Nat.add_sub_cancel, List.getD_eq_getElem?_getD, List.getElem?_eq_getElem hpl, hx]; rfl
        have HCUT : Hd (cutOk l k = !verIs (l.drop k) x.ver) := hd (by unfold cutOk; rw [hgd])
        have HST : Hd ((if cutOk l k = true then k else splitV l ((k : Int) + 1)) = res) := hd (by rw [← splitV_step hkl]; exact HS.o)
        have hpi : (k : Int) - 1 = (p : Int) := by omega
        have hpn : (p : Int) < (n : Int) := by omega
        have hp0 : (0 : Int) ≤ (p : Int) := by omega
        have hck : ¬ c = k := by omega
        have hkc : (k : Int) ≤ (n : Int) := by omega
        have hdl : n - k = (l.drop k).length := by rw [List.length_drop, ← HN.o]
        have HDR := hd hdr
        have HDL := hd hdl
        obtain ⟨xv, hxv⟩ : ∃ q, x.ver = q := ⟨_, rfl⟩
        rw [hxv] at k1 HCUT
        have HCALL : Hd (Calls Try.prog 77 #[.slice (some ⟨g, o + k * 4, none⟩) (n - k) (c - k), .func (.func 78) #[] #[.pointer (some ⟨wr.heap.size, 0, none⟩)]] (wr.alloc (.cells #[.int .i64 xv] 2)) fun e w' => e = .returned (.bool (verIs (l.drop k) xv)) ∧ Below (wr.alloc (.cells #[.int .i64 xv] 2)).heap.size (wr.alloc (.cells #[.int .i64 xv] 2)) w') := hd (cfI_calls _ _ _ _ (l.drop k) wr.heap.size xv ((HDR.o.below HB.o).alloc _) HDL.o (by omega) ((Blk.new wr 2 _).at_ 0 rfl) (by simp))
        have HB1 := hd (HB.o.alloc HB.o.size (.cells #[.int .i64 xv] 2))
        obtain ⟨q, hq⟩ : ∃ q, verIs (l.drop k) xv = q := ⟨_, rfl⟩
        rw [hq] at HCALL HCUT
        clear hc hdr hx hgd hdl hxv hq hkl hpl
        subst hp
        cases q with
        | true =>
          have HST2 : Hd (splitV l (((p + 1 : Nat) : Int) + 1) = res) := hd (by have := HST.o; rw [HCUT.o] at this; simpa using this)
          go_wp2_with fail
          refine HCALL.o.mono ?_
          rintro e w1 ⟨rfl, hb1⟩
          have HB2 := hd (HB1.o.trans (hb1.mono HB1.o.size))
          clear hb1
          go_wp2
          go_roundw
          case rel => exact ⟨((p + 1 : Nat) : Int) + 1, by go_num, by omega, HST2, HB2⟩
          case measure => simp [intOf]; omega
        | false =>
          have HST2 : Hd (p + 1 = res) := hd (by have := HST.o; rw [HCUT.o] at this; simpa using this)
          go_wp2_with fail
          refine HCALL.o.mono ?_
          rintro e w1 ⟨rfl, hb1⟩
          have HB2 := hd (HB1.o.trans (hb1.mono HB1.o.size))
          clear hb1
          go_wp2
          go_ret
          exact ⟨ret_int (by have := HST2.o; omega), HB2.o⟩
      · have hge : ¬ v < (l.length : Int) := by rw [← HN.o]; exact hlt
        have HE : Hd (n = res) := hd (by rw [← HS.o, splitV_end hge (by omega)]; exact HN.o)
        go_wp2
        go_ret
        exact ⟨ret_int (by have := HE.o; omega), HB.o⟩

/-- Is a version among those from n on, below k? -/
def behB (l : List It) (n k : Nat) (v : Int) : Bool := verIs ((l.take k).drop n) v
theorem behB_snoc {l : List It} {n k : Nat} {v : Int} (h1 : n ≤ k) (h2 : k < l.length) {x : It} (hx : l[k] = x) : behB l n (k + 1) v = (behB l n k v || (x.ver == v)) := by
  unfold behB
  rw [List.take_succ_eq_append_getElem h2, hx, List.drop_append_of_le_length (by rw [List.length_take]; omega), verIs_snoc]
theorem behB_start (l : List It) (n : Nat) (v : Int) : behB l n n v = false := by
  unfold behB
  rw [List.drop_of_length_le (by rw [List.length_take]; omega)]
  rfl
theorem behB_full (l : List It) (n : Nat) (v : Int) : behB l n l.length v = verIs (l.drop n) v := by unfold behB; rw [List.take_length]

set_option maxRecDepth 100000 in
set_option maxHeartbeats 4000000 in
theorem rsplit_calls (w : World) (A : Option Addr) (n c : Nat) (l : List It) (most : Int) (hr : Rds w A n 4 (itsEnc l)) (hn : n = l.length) (hm : n ≤ 1000000) :
    Calls Try.prog 49 #[.slice A n c, .int .i64 most] w fun e w' => e = .returned (.int .i64 (splitP l most : Nat)) ∧ Below w.heap.size w w' := by
  have HR := hd hr
  have HN := hd hn
  obtain ⟨res, hres⟩ : ∃ r, splitP l most = r := ⟨_, rfl⟩
  have HP : Hd (splitV l (max most 1) = res) := hd hres
  rw [hres]
  clear hr hn hres
  go_enter Try.func49, Try.ntmps49
  go_wp2_with fail
  all_goals
    go_loopw [5, 6, 7] (fun s5 _ _ wr => ∃ v : Int, s5 = .int .i64 v ∧ 1 ≤ v ∧ Hd (splitV l v = res) ∧ (∃ q, wr = w.drewN q)) (fun s5 _ _ _ => n - (intOf s5).toNat)
    case atStart => exact ⟨max most 1, rfl, by omega, HP, ⟨0, rfl⟩⟩
    case round =>
      obtain ⟨v, rfl, hv1, HS, ⟨q0, rfl⟩⟩ := hrel
      by_cases hlt : v < n
      · obtain ⟨k, rfl⟩ : ∃ k : Nat, v = k := ⟨v.toNat, by omega⟩
        have hkn : k < n := by omega
        have hkl : k < l.length := by rw [← HN.o]; exact hkn
        obtain ⟨g, o, rfl, hg, hc⟩ := HR.o.at_ (by omega)
        obtain ⟨p, hp⟩ : ∃ p : Nat, k = p + 1 := ⟨k - 1, by omega⟩
        have hpl : p < l.length := by omega
        obtain ⟨x, hx⟩ : ∃ x, l[p]'hpl = x := ⟨_, rfl⟩
        have k1 : w.cell? ⟨g, o + (p * 4 + 1), none⟩ = some (.int .i64 x.ver) := hc _ _ ((flat_at itEnc 4 itEnc_len l p hpl 1 (by omega)).trans (by rw [hx]; rfl))
        rw [← Nat.add_assoc] at k1
        have hgd : l.getD (k - 1) default = x := by rw [hp, Nat.add_sub_cancel, List.getD_eq_getElem?_getD, List.getElem?_eq_getElem hpl, hx]; rfl
        have HCUT : Hd (cutOk l k = !verIs (l.drop k) x.ver) := hd (by unfold cutOk; rw [hgd])
        have HST : Hd ((if cutOk l k = true then k else splitV l ((k : Int) + 1)) = res) := hd (by rw [← splitV_step hkl]; exact HS.o)
        have hpi : (k : Int) - 1 = (p : Int) := by omega
        have hpn : (p : Int) < (n : Int) := by omega
        have hp0 : (0 : Int) ≤ (p : Int) := by omega
        have HCX := hd (fun (j : Nat) (hj : j < l.length) => (show w.cell? ⟨g, o + j * 4 + 1, none⟩ = some (.int .i64 (l[j]'hj).ver) by rw [Nat.add_assoc]; exact hc _ _ ((flat_at itEnc 4 itEnc_len l j hj 1 (by omega)).trans rfl)))
        obtain ⟨xv, hxv⟩ : ∃ q, x.ver = q := ⟨_, rfl⟩
        rw [hxv] at k1 HCUT
        have HB0 := hd (behB_start l k xv)
        clear hc hx hgd hxv hkl hpl HS
        have HKP := hd hp
        clear hp
        have hki : (0 : Int) ≤ (k : Int) := by omega
        go_wp2_with fail
        go_loopw [6, 7] (fun s6 s7 wx => ∃ (j : Nat) (bh : Bool), s7 = .int .i64 j ∧ s6 = .bool bh ∧ k ≤ j ∧ j ≤ n ∧ Hd (behB l k j xv = bh) ∧ (∃ q, wx = w.drewN q)) (fun _ s7 _ => n - (intOf s7).toNat)
        case atStart => exact ⟨k, false, rfl, rfl, Nat.le_refl _, by omega, HB0, ⟨q0, rfl⟩⟩
        case round =>
          obtain ⟨j, bh, rfl, rfl, hkj, hjn, HBH, ⟨q1, rfl⟩⟩ := hrel
          have hji : (0 : Int) ≤ (j : Int) := by omega
          by_cases hjl : j < n
          · have hjli : (j : Int) < (n : Int) := by omega
            have hjl2 : j < l.length := by rw [← HN.o]; exact hjl
            have y1 := HCX.o j hjl2
            obtain ⟨y, hy⟩ : ∃ y, l[j]'hjl2 = y := ⟨_, rfl⟩
            have HSN := hd (behB_snoc (v := xv) hkj hjl2 hy)
            rw [hy] at y1
            obtain ⟨yv, hyv⟩ : ∃ q, y.ver = q := ⟨_, rfl⟩
            rw [hyv] at y1 HSN
            obtain ⟨bq, hbq⟩ : ∃ q : Bool, (yv == xv) = q := ⟨_, rfl⟩
            rw [hbq, HBH.o] at HSN
            clear hjl2 hy hyv
            cases bh with
            | true =>
              have HSN2 : Hd (behB l k (j + 1) xv = true) := hd (by rw [HSN.o]; rfl)
              clear hbq
              go_wp2_with fail
              go_quiet (fail)
              go_wp2
              go_roundw
              case rel => exact ⟨j + 1, true, by go_num, rfl, by omega, by omega, HSN2, ⟨_, rfl⟩⟩
              case measure => simp [intOf]; omega
            | false =>
              have HSN2 : Hd (behB l k (j + 1) xv = bq) := hd (by rw [HSN.o]; rfl)
              go_wp2_with fail
              go_quiet (fail)
              go_wp2
              go_roundw
              case rel => exact ⟨j + 1, bq, by go_num, rfl, by omega, by omega, HSN2, ⟨_, rfl⟩⟩
              case measure => simp [intOf]; omega
          · obtain rfl : j = n := by omega
            have HBF : Hd (cutOk l k = !bh) := hd (by rw [HCUT.o, ← behB_full l k xv, ← HN.o, HBH.o])
            cases bh with
            | true =>
              have HST2 : Hd (splitV l ((k : Int) + 1) = res) := hd (by have := HST.o; rw [HBF.o] at this; simpa using this)
              go_wp2
              go_roundw
              case rel => exact ⟨(k : Int) + 1, by go_num, by omega, HST2, ⟨_, rfl⟩⟩
              case measure => simp [intOf]; omega
            | false =>
              have HST2 : Hd (k = res) := hd (by have := HST.o; rw [HBF.o] at this; simpa using this)
              go_wp2
              go_ret
              exact ⟨ret_int (by have := HST2.o; omega), bdrewN (Below.refl _ _) _⟩
      · have hge : ¬ v < (l.length : Int) := by rw [← HN.o]; exact hlt
        have HE : Hd (n = res) := hd (by rw [← HS.o, splitV_end hge (by omega)]; exact HN.o)
        go_wp2
        go_ret
        exact ⟨ret_int (by have := HE.o; omega), bdrewN (Below.refl _ _) _⟩

end Go.Proofs.Ytbeckfnhgeclnaa
/-
  Page, both.
-/
namespace Go.Proofs.Ytbeckfnhgeclnaa
open Go.RowKit Go.Lib

theorem results_tmp4 {fn : Func} {t u v x : Tmp} (h : fn.results = #[.tmp t, .tmp u, .tmp v, .tmp x]) (tmps : Array Value) (P : Program) (w : World) :
    (results fn tmps).run P w = .ok (.tuple #[tmps.getD t undef, tmps.getD u undef, tmps.getD v undef, tmps.getD x undef]) w := by
  simp [results, h]

theorem splitG_ge (l : List It) : ∀ f n, splitG l f n = l.length ∨ n ≤ splitG l f n
  | 0, _ => .inl rfl
  | f + 1, n => by
    unfold splitG
    split
    · split
      · exact .inr (Nat.le_refl _)
      · rcases splitG_ge l f (n + 1) with h | h
        · exact .inl h
        · exact .inr (by omega)
    · exact .inl rfl
theorem splitP_pos (l : List It) (most : Int) : splitP l most = l.length ∨ 1 ≤ splitP l most := by
  unfold splitP splitV
  rcases splitG_ge l (l.length - (max most 1).toNat) (max most 1).toNat with h | h
  · exact .inl h
  · exact .inr (by omega)
/-- What a page is. -/
def pageN (l : List It) (tok most : Int) : Nat := if tok = 0 then l.length else splitP l most
def pageP (l : List It) (tok most latest : Int) : List It × Int × Bool := if pageN l tok most = l.length then (l, latest, false) else (l.take (pageN l tok most), (l.getD (pageN l tok most - 1) default).ver, true)
def pageR (l : List It) (tok most latest err : Int) : List It × Int × Bool := if err = 0 then pageP l tok most latest else ([], 0, false)
theorem Rds.takeN {w : World} {A : Option Addr} {n : Nat} {l : List It} (h : Rds w A n 4 (itsEnc l)) (m : Nat) (hm : m ≤ n) : Rds w A (l.take m).length 4 (itsEnc (l.take m)) := by
  have hl := h.len
  rw [itsEnc_len'] at hl
  have : (l.take m).length = m := by rw [List.length_take]; omega
  rw [this]
  exact h.takeI m hm

set_option maxRecDepth 100000 in
set_option maxHeartbeats 4000000 in
theorem cpage_calls {B : Nat} {w wr : World} {b1 b2 : Nat} {s1 s2 : Cs} (h : TwoC B w wr b1 b2 s1 s2) (tok most : Int) (hl : s1.ml.length ≤ 1000000) (hlg : s1.log.length ≤ 1000000) :
    Calls Try.prog 50 #[.pointer (some ⟨b1, 0, none⟩), .int .i64 tok, .int .i64 most] wr fun e w' => ∃ l' err A c, e = .returned (.tuple #[.slice A (pageR l' tok most s1.latest err).1.length c, .int .i64 (pageR l' tok most s1.latest err).2.1, .bool (pageR l' tok most s1.latest err).2.2, .int .i64 err]) ∧ SinceIs s1 tok l' err ∧ Rds w' A (pageR l' tok most s1.latest err).1.length 4 (itsEnc (pageR l' tok most s1.latest err).1) ∧ TwoC B w w' b1 b2 s1 s2 ∧ Below wr.heap.size wr w' := by
  have HS := hd (twoc_since1 h tok hl hlg)
  have HLA := hd (fun (w' : World) (h' : TwoC B w w' b1 b2 s1 s2) => (by
    obtain ⟨S, T, ⟨mb, rb, S1, S2, hb, _⟩, _⟩ := h'.ex
    exact hb.at_ 4 rfl : w'.cell? ⟨b1, 4, none⟩ = some (.int .i64 s1.latest)))
  generalize s1.latest = la at *
  clear h
  go_enter Try.func50, Try.ntmps50
  go_wp2_with fail
  refine HS.o.mono ?_
  rintro e w2 ⟨l', err, A, c, rfl, hs, hr, hO, hb⟩
  have HSI := hd hs
  have HROW := hd hr
  have HO := hd hO
  have HB := hd hb
  have hle := since_len hs
  have hcap := hr.cap
  clear hs hr hO hb HS
  by_cases he : err = 0
  · subst he
    have hpr : ∀ la, pageR l' tok most la 0 = pageP l' tok most la := fun la => by unfold pageR; rw [if_pos rfl]
    have HPR := hd hpr
    have HPN : Hd (pageN l' tok most ≤ l'.length ∧ (pageN l' tok most = l'.length ∨ 1 ≤ pageN l' tok most)) := hd (by
      unfold pageN
      split
      · exact ⟨Nat.le_refl _, .inl rfl⟩
      · exact ⟨splitP_le _ _, splitP_pos _ _⟩)
    have HSP := hd (csplit_calls w2 A l'.length c l' most HROW.o.rds rfl (by omega) hcap.1)
    have HPZ : Hd (tok = 0 → pageN l' tok most = l'.length) := hd (fun h => by unfold pageN; rw [if_pos h])
    have HPS : Hd (tok ≠ 0 → splitP l' most = pageN l' tok most) := hd (fun h => by unfold pageN; rw [if_neg h])
    have HPP : Hd (pageP l' tok most la = if pageN l' tok most = l'.length then (l', la, false) else (l'.take (pageN l' tok most), (l'.getD (pageN l' tok most - 1) default).ver, true)) := hd rfl
    obtain ⟨q, hq⟩ : ∃ q, l'.length = q := ⟨_, rfl⟩
    obtain ⟨pn, hpn⟩ : ∃ q, pageN l' tok most = q := ⟨_, rfl⟩
    have HQ := hd hq
    rw [hq] at HPN HSP HPZ HPP HROW hle hcap
    rw [hpn] at HPN HPZ HPS HPP
    simp only [hq]
    clear hq hpn hpr
    have l4 := HLA.o w2 HO.o
    have HSP2 : Hd (tok ≠ 0 → Calls Try.prog 48 #[.slice A q c, .int .i64 most] w2 fun e w' => e = .returned (.int .i64 (pn : Nat)) ∧ Below w2.heap.size w2 w') := hd (fun h => by rw [← HPS.o h]; exact HSP.o)
    clear HSP
    go_upto_if 23 with (fail)
    go_cut [10] from 23 to 26 (fun s10 wx => s10 = .int .i64 (pn : Nat) ∧ Hd (Below w2.heap.size w2 wx))
    case first =>
      by_cases ht : tok = 0
      · have f1 : (tok != 0) = false := by simpa using ht
        have hpq := HPZ.o ht
        clear ht
        subst hpq
        go_wp2_with fail
        go_meet
        exact ⟨rfl, hd (Below.refl _ _)⟩
      · have f1 : (tok != 0) = true := by simpa using ht
        have HC := hd (HSP2.o ht)
        clear ht
        go_wp2_with fail
        refine HC.o.mono ?_
        rintro e w3 ⟨rfl, hb⟩
        have HB3 := hd hb
        clear hb
        go_wp2_with fail
        go_meet
        exact ⟨rfl, HB3⟩
    case rest =>
      obtain ⟨rfl, HB3⟩ := hcut
      have HO3 := hd (HO.o.bel HB3.o)
      have HR3 := hd (HROW.o.below HB3.o)
      have HBF := hd (HB.o.trans (HB3.o.mono HB.o.size))
      have y4 := HLA.o wc HO3.o
      clear HSP2 l4 HO HROW
      by_cases hpq : pn = q
      · have f1 : ((pn : Int) == (q : Int)) = true := by rw [hpq]; simp
        have HP : Hd (pageR l' tok most la 0 = (l', la, false)) := hd (by rw [HPR.o, HPP.o, if_pos hpq])
        clear hpq
        go_wp2_with fail
        go_quiet (fail)
        go_wp2
        (try simp only [Exit.inBlock, Exit.then]); refine bodyPost_ret (results_tmp4 rfl _ _ _) rfl ?_
        exact ⟨l', 0, A, c, by rw [HP.o]; show _ = Ending.returned (.tuple #[.slice A l'.length c, _, _, _]); rw [HQ.o]; rfl, HSI.o, by rw [HP.o]; show Rds _ A l'.length 4 (itsEnc l'); rw [HQ.o]; exact (HR3.o.drewN _).rds, HO3.o.drewN _, bdrewN HBF.o _⟩
      · have f1 : ((pn : Int) == (q : Int)) = false := by simp; omega
        have hp1 : 1 ≤ pn := by have := HPN.o; omega
        obtain ⟨p, rfl⟩ : ∃ p, pn = p + 1 := ⟨pn - 1, by omega⟩
        have hpl : p + 1 < q := by have := HPN.o; omega
        have HPL := hd hpl
        have hpll : p < l'.length := by rw [HQ.o]; omega
        obtain ⟨g, rfl, _, _, hqc, _, hcl, _⟩ := HR3.o.at_ (by omega)
        obtain ⟨v, hv⟩ : ∃ v, (l'[p]'hpll).ver = v := ⟨_, rfl⟩
        have k1 := hcl (p * 4 + 1) _ ((flat_at itEnc 4 itEnc_len l' p hpll 1 (by omega)).trans (by simp [itEnc]; rfl))
        rw [hv] at k1
        have HP : Hd (pageR l' tok most la 0 = (l'.take (p + 1), v, true)) := hd (by
          rw [HPR.o, HPP.o, if_neg hpq]
          simp only [Nat.add_sub_cancel]
          rw [List.getD_eq_getElem?_getD, List.getElem?_eq_getElem hpll, Option.getD_some, hv])
        have hpi : (p : Int) < (q : Int) := by omega
        have hpc : (p : Int) + 1 ≤ (c : Int) := by omega
        have hp0 : (0 : Int) ≤ (p : Int) + 1 := by omega
        have HLT : Hd ((l'.take (p + 1)).length = p + 1) := hd (by rw [List.length_take, HQ.o]; omega)
        clear hpq hcl hv hpll hp1 hpl
        go_wp2_with fail
        go_quiet (fail)
        go_wp2
        (try simp only [Exit.inBlock, Exit.then]); refine bodyPost_ret (results_tmp4 rfl _ _ _) rfl ?_
        exact ⟨l', 0, _, p + 1, by rw [HP.o]; show _ = Ending.returned (.tuple #[.slice _ (l'.take (p + 1)).length _, _, _, _]); rw [HLT.o]; rfl, HSI.o, by rw [HP.o]; exact (HR3.o.drewN _).rds.takeN (p + 1) (by have := HPL.o; omega), HO3.o.drewN _, bdrewN HBF.o _⟩
  · have hen : (err != 0) = true := by simpa using he
    have hpr : pageR l' tok most la err = ([], 0, false) := by unfold pageR; rw [if_neg he]
    have HPR := hd hpr
    clear he hpr
    go_wp2
    (try simp only [Exit.inBlock, Exit.then]); refine bodyPost_ret (results_tmp4 rfl _ _ _) rfl ?_
    refine ⟨l', err, none, 0, by rw [HPR.o]; rfl, HSI.o, by rw [HPR.o]; exact (Row.nil w2 (fun _ => True) 41 4).rds, HO.o, HB.o⟩

theorem RowO.cap {w : World} {S : Nat → Prop} {e : TypeId} {size n c : Nat} {A : Option Addr} {xs : List Value} (h : RowO w S e size A n c xs) : n ≤ c := by
  rcases h with h | ⟨rfl, rfl, rfl⟩
  · exact h.cap.1
  · exact Nat.le_refl _
theorem RowO.pos {w : World} {S : Nat → Prop} {e : TypeId} {size n c : Nat} {A : Option Addr} {xs : List Value} (h : RowO w S e size A n c xs) (hn : 0 < n) : Row w S e size A n c xs := by
  rcases h with h | ⟨rfl, _, _⟩
  · exact h
  · omega
theorem RowO.below {w w' : World} {S : Nat → Prop} {e : TypeId} {size n c : Nat} {A : Option Addr} {xs : List Value} (h : RowO w S e size A n c xs) (hb : Below w.heap.size w w') : RowO w' S e size A n c xs := h.imp (fun h => h.below hb) id
theorem outR_len (ml : ML Ce) (tok : Int) : ∀ l : List Ch, (outR ml tok l).length ≤ l.length := by
  refine ind_snoc (by simp [outR]) fun l x ih => ?_
  rw [outR_snoc]
  have := stepR_len ml tok (outR ml tok l) x
  rw [List.length_append, List.length_singleton]
  omega
theorem rsince_len {s : Cs} {tok : Int} {l' : List It} {err : Int} (h : RSinceIs s tok l' err) : l'.length ≤ s.ml.length ∨ l'.length ≤ s.log.length := by
  rcases h with ⟨_, _, h⟩ | ⟨_, _, _, h⟩ | ⟨_, _, _, h⟩
  · left; rw [h.1.length_eq, liveL_len]; exact Nat.le_refl _
  · left; rw [h]; exact Nat.zero_le _
  · right; rw [h.1.length_eq]; have := outR_len s.ml tok s.log.reverse; simpa using this

set_option maxRecDepth 100000 in
set_option maxHeartbeats 4000000 in
theorem rpage_calls {B : Nat} {w wr : World} {b1 b2 : Nat} {s1 s2 : Cs} (h : TwoC B w wr b1 b2 s1 s2) (tok most : Int) (hl : s2.ml.length ≤ 1000000) (hlg : s2.log.length ≤ 1000000) :
    Calls Try.prog 51 #[.pointer (some ⟨b2, 0, none⟩), .int .i64 tok, .int .i64 most] wr fun e w' => ∃ l' err A c, e = .returned (.tuple #[.slice A (pageR l' tok most s2.latest err).1.length c, .int .i64 (pageR l' tok most s2.latest err).2.1, .bool (pageR l' tok most s2.latest err).2.2, .int .i64 err]) ∧ RSinceIs s2 tok l' err ∧ Rds w' A (pageR l' tok most s2.latest err).1.length 4 (itsEnc (pageR l' tok most s2.latest err).1) ∧ TwoC B w w' b1 b2 s1 s2 ∧ Below wr.heap.size wr w' := by
  have HS := hd (twoc_since2o h tok hl hlg)
  have HLA := hd (fun (w' : World) (h' : TwoC B w w' b1 b2 s1 s2) => (by
    obtain ⟨S, T, _, ⟨A0, c0, A00, c00, hb, _⟩, _⟩ := h'.ex
    exact hb.at_ 4 rfl : w'.cell? ⟨b2, 4, none⟩ = some (.int .i64 s2.latest)))
  generalize s2.latest = la at *
  clear h
  go_enter Try.func51, Try.ntmps51
  go_wp2_with fail
  refine HS.o.mono ?_
  rintro e w2 ⟨l', err, A, c, rfl, hs, hr, hO, hb⟩
  have HSI := hd hs
  have HROW := hd hr
  have HO := hd hO
  have HB := hd hb
  have hle := rsince_len hs
  have hcap := RowO.cap hr
  clear hs hr hO hb HS
  by_cases he : err = 0
  · subst he
    have hpr : ∀ la, pageR l' tok most la 0 = pageP l' tok most la := fun la => by unfold pageR; rw [if_pos rfl]
    have HPR := hd hpr
    have HPN : Hd (pageN l' tok most ≤ l'.length ∧ (pageN l' tok most = l'.length ∨ 1 ≤ pageN l' tok most)) := hd (by
      unfold pageN
      split
      · exact ⟨Nat.le_refl _, .inl rfl⟩
      · exact ⟨splitP_le _ _, splitP_pos _ _⟩)
    have HSP := hd (rsplit_calls w2 A l'.length c l' most (RowO.rds HROW.o) rfl (by omega))
    have HPZ : Hd (tok = 0 → pageN l' tok most = l'.length) := hd (fun h => by unfold pageN; rw [if_pos h])
    have HPS : Hd (tok ≠ 0 → splitP l' most = pageN l' tok most) := hd (fun h => by unfold pageN; rw [if_neg h])
    have HPP : Hd (pageP l' tok most la = if pageN l' tok most = l'.length then (l', la, false) else (l'.take (pageN l' tok most), (l'.getD (pageN l' tok most - 1) default).ver, true)) := hd rfl
    obtain ⟨q, hq⟩ : ∃ q, l'.length = q := ⟨_, rfl⟩
    obtain ⟨pn, hpn⟩ : ∃ q, pageN l' tok most = q := ⟨_, rfl⟩
    have HQ := hd hq
    rw [hq] at HPN HSP HPZ HPP HROW hle hcap
    rw [hpn] at HPN HPZ HPS HPP
    simp only [hq]
    clear hq hpn hpr
    have l4 := HLA.o w2 HO.o
    have HSP2 : Hd (tok ≠ 0 → Calls Try.prog 49 #[.slice A q c, .int .i64 most] w2 fun e w' => e = .returned (.int .i64 (pn : Nat)) ∧ Below w2.heap.size w2 w') := hd (fun h => by rw [← HPS.o h]; exact HSP.o)
    clear HSP
    go_upto_if 25 with (fail)
    go_cut [12] from 25 to 28 (fun s10 wx => s10 = .int .i64 (pn : Nat) ∧ Hd (Below w2.heap.size w2 wx))
    case first =>
      by_cases ht : tok = 0
      · have f1 : (tok != 0) = false := by simpa using ht
        have hpq := HPZ.o ht
        clear ht
        subst hpq
        go_wp2_with fail
        go_meet
        exact ⟨rfl, hd (Below.refl _ _)⟩
      · have f1 : (tok != 0) = true := by simpa using ht
        have HC := hd (HSP2.o ht)
        clear ht
        go_wp2_with fail
        refine HC.o.mono ?_
        rintro e w3 ⟨rfl, hb⟩
        have HB3 := hd hb
        clear hb
        go_wp2_with fail
        go_meet
        exact ⟨rfl, HB3⟩
    case rest =>
      obtain ⟨rfl, HB3⟩ := hcut
      have HO3 := hd (HO.o.bel HB3.o)
      have HR3 := hd (RowO.below HROW.o HB3.o)
      have HBF := hd (HB.o.trans (HB3.o.mono HB.o.size))
      have y4 := HLA.o wc HO3.o
      clear HSP2 l4 HO HROW
      by_cases hpq : pn = q
      · have f1 : ((pn : Int) == (q : Int)) = true := by rw [hpq]; simp
        have HP : Hd (pageR l' tok most la 0 = (l', la, false)) := hd (by rw [HPR.o, HPP.o, if_pos hpq])
        clear hpq
        go_wp2_with fail
        go_quiet (fail)
        go_wp2
        (try simp only [Exit.inBlock, Exit.then]); refine bodyPost_ret (results_tmp4 rfl _ _ _) rfl ?_
        exact ⟨l', 0, A, c, by rw [HP.o]; show _ = Ending.returned (.tuple #[.slice A l'.length c, _, _, _]); rw [HQ.o]; rfl, HSI.o, by rw [HP.o]; show Rds _ A l'.length 4 (itsEnc l'); rw [HQ.o]; exact RowO.rds (RowO.drewN HR3.o _), HO3.o.drewN _, bdrewN HBF.o _⟩
      · have f1 : ((pn : Int) == (q : Int)) = false := by simp; omega
        have hp1 : 1 ≤ pn := by have := HPN.o; omega
        obtain ⟨p, rfl⟩ : ∃ p, pn = p + 1 := ⟨pn - 1, by omega⟩
        have hpl : p + 1 < q := by have := HPN.o; omega
        have HPL := hd hpl
        have hpll : p < l'.length := by rw [HQ.o]; omega
        obtain ⟨g, rfl, _, _, hqc, _, hcl, _⟩ := (RowO.pos HR3.o (by omega)).at_ (by omega)
        obtain ⟨v, hv⟩ : ∃ v, (l'[p]'hpll).ver = v := ⟨_, rfl⟩
        have k1 := hcl (p * 4 + 1) _ ((flat_at itEnc 4 itEnc_len l' p hpll 1 (by omega)).trans (by simp [itEnc]; rfl))
        rw [hv] at k1
        have HP : Hd (pageR l' tok most la 0 = (l'.take (p + 1), v, true)) := hd (by
          rw [HPR.o, HPP.o, if_neg hpq]
          simp only [Nat.add_sub_cancel]
          rw [List.getD_eq_getElem?_getD, List.getElem?_eq_getElem hpll, Option.getD_some, hv])
        have hpi : (p : Int) < (q : Int) := by omega
        have hpc : (p : Int) + 1 ≤ (c : Int) := by omega
        have hp0 : (0 : Int) ≤ (p : Int) + 1 := by omega
        have HLT : Hd ((l'.take (p + 1)).length = p + 1) := hd (by rw [List.length_take, HQ.o]; omega)
        clear hpq hcl hv hpll hp1 hpl
        go_wp2_with fail
        go_quiet (fail)
        go_wp2
        (try simp only [Exit.inBlock, Exit.then]); refine bodyPost_ret (results_tmp4 rfl _ _ _) rfl ?_
        exact ⟨l', 0, _, _, by rw [HP.o]; show _ = Ending.returned (.tuple #[.slice _ (l'.take (p + 1)).length _, _, _, _]); rw [HLT.o]; rfl, HSI.o, by rw [HP.o]; exact (RowO.rds (RowO.drewN HR3.o _)).takeN (p + 1) (by have := HPL.o; omega), HO3.o.drewN _, bdrewN HBF.o _⟩
  · have hen : (err != 0) = true := by simpa using he
    have hpr : pageR l' tok most la err = ([], 0, false) := by unfold pageR; rw [if_neg he]
    have HPR := hd hpr
    clear he hpr
    go_wp2
    (try simp only [Exit.inBlock, Exit.then]); refine bodyPost_ret (results_tmp4 rfl _ _ _) rfl ?_
    refine ⟨l', err, none, 0, by rw [HPR.o]; rfl, HSI.o, by rw [HPR.o]; exact (Row.nil w2 (fun _ => True) 41 4).rds, HO.o, HB.o⟩

end Go.Proofs.Ytbeckfnhgeclnaa
/-
  A copy that goes page by page: plainly.
-/
namespace Go.Proofs.Ytbeckfnhgeclnaa
open Go.RowKit Go.Lib

def asIt (u : List UInt8) (c : Ce) : It := ⟨u, c.ver, false, c.text⟩
/-- At u the copy has what the collection has. -/
def Fits (s : Cs) (H : ML It) (u : List UInt8) : Prop := getM H u = (getM s.ml u).map (asIt u)
/-- What changed last by t is in the copy as it is. -/
def Upto (s : Cs) (H : ML It) (t : Int) : Prop := ∀ u, (∀ x, lastTok s.log u = some x → x ≤ t) → Fits s H u
def CopyOf (s : Cs) (H : ML It) (t : Int) : Prop := t < s.horizon ∨ Upto s H t
theorem Cs.hor_ge (s : Cs) : s.horizon ≤ s.hor := by
  unfold Cs.hor
  split
  · omega
  · exact Int.le_refl _
theorem Cs.step_hor (s : Cs) (o : OpV) (t : Int) : s.horizon ≤ (s.step o t).2.horizon := by
  unfold Cs.step
  split
  · exact Int.le_refl _
  · exact s.hor_ge
theorem Cs.step_latest {s : Cs} (o : OpV) {t : Int} (h : s.latest ≤ t) : s.latest ≤ (s.step o t).2.latest ∧ (s.step o t).2.latest ≤ t := by
  unfold Cs.step
  split
  · exact ⟨Int.le_refl _, h⟩
  · exact ⟨h, Int.le_refl _⟩
theorem lastTok_head {l : List Ch} {x : Ch} {u : List UInt8} {t : Int} (h : lastTok (x :: l) u = some t) : lastTok l u = some t ∨ (lastTok l u = none ∧ x.2 = u ∧ t = x.1) := by
  unfold lastTok at h ⊢
  rw [List.reverse_cons, List.find?_append] at h
  cases hf : l.reverse.find? (fun x => x.2 == u) with
  | some y => rw [hf] at h; left; simpa using h
  | none =>
    rw [hf] at h
    right
    by_cases hx : x.2 = u
    · simp [hx] at h; exact ⟨rfl, hx, h.symm⟩
    · simp [hx] at h
theorem step_copy {s : Cs} (hok : s.Ok) {H : ML It} {t T : Int} (h : CopyOf s H t) (hT : t < T) (o : OpV) : CopyOf (s.step o T).2 H t := by
  rcases h with h | h
  · exact .inl (Int.lt_of_lt_of_le h (s.step_hor o T))
  · unfold Cs.step
    cases hn : s.no o T with
    | true => exact .inr h
    | false =>
      show CopyOf (s.app o T) H t
      by_cases c : pushFull s.cap s.log = true ∧ t < (s.log.headD (0, [])).1
      · left
        show t < s.hor
        unfold Cs.hor
        rw [if_pos c.1]
        omega
      · right
        intro u hu
        have hu : ∀ x, lastTok (pushL s.cap s.log (T, o.uid)) u = some x → x ≤ t := hu
        show getM H u = (getM (s.mls o T) u).map (asIt u)
        unfold pushL at hu
        rw [lastTok_snoc] at hu
        by_cases he : o.uid = u
        · rw [if_pos he] at hu
          have := hu T rfl
          omega
        · rw [if_neg he] at hu
          rw [mls_get hok.rise, if_neg (fun e => he e.symm)]
          refine h u fun x hx => ?_
          by_cases hf : pushFull s.cap s.log = true
          · rw [if_pos hf] at hu
            have hh : ¬ t < (s.log.headD (0, [])).1 := fun hlt => c ⟨hf, hlt⟩
            cases hlog : s.log with
            | nil => rw [hlog] at hx; simp [lastTok] at hx
            | cons y l =>
              rw [hlog] at hx hu hh
              rcases lastTok_head hx with h1 | ⟨_, _, h3⟩
              · exact hu x h1
              · simp only [List.headD_cons] at hh; omega
          · rw [if_neg hf] at hu
            exact hu x hx

/-- What is told, as a set. -/
theorem outR_all (ml : ML Ce) (tok : Int) : ∀ l : List Ch, ∀ x ∈ l, tok < x.1 → ∃ y ∈ outR ml tok l, y.uid = x.2 := by
  refine ind_snoc (fun x hx => by cases hx) fun l z ih x hx hlt => ?_
  rw [outR_snoc]
  unfold stepR
  rcases List.mem_append.1 hx with hx | hx
  · obtain ⟨y, hy, he⟩ := ih x hx hlt
    split
    · exact ⟨y, hy, he⟩
    · exact ⟨y, List.mem_append_left _ hy, he⟩
  · rw [List.mem_singleton] at hx
    subst hx
    by_cases hs : seenR (outR ml tok l) x.2 = true
    · rw [if_pos (.inr hs)]
      unfold seenR at hs
      rw [List.any_eq_true] at hs
      obtain ⟨y, hy, he⟩ := hs
      exact ⟨y, hy, by simpa using he⟩
    · rw [if_neg (by rintro (h | h); omega; exact hs h)]
      exact ⟨itAt ml x, by simp, itAt_uid ml x⟩
theorem lastTok_mem {l : List Ch} {u : List UInt8} {t : Int} (h : lastTok l u = some t) : (t, u) ∈ l := by
  unfold lastTok at h
  obtain ⟨x, hx, rfl⟩ := Option.map_eq_some_iff.1 h
  have h1 := List.find?_some hx
  have h2 := List.mem_of_find?_eq_some hx
  have : x.2 = u := by simpa using h1
  subst this
  simpa using h2
/-- An item of what is told: the last of its UID, as the collection has it. -/
structure Last (s : Cs) (t : Int) (y : It) : Prop where
  tok : lastTok s.log y.uid = some y.ver
  is : itLeft y = (getM s.ml y.uid).map (asIt y.uid)
  new : t < y.ver
theorem out_last {s : Cs} (hv : s.Ver) (ht : s.Tok) (tok : Int) : ∀ y ∈ outR s.ml tok s.log.reverse, Last s tok y := by
  intro y hy
  obtain ⟨x, hx, rfl, h1, h2⟩ := outR_mem s.ml tok _ ht.falls y hy
  have hl : lastTok s.log x.2 = some x.1 := by unfold lastTok; rw [h2]; rfl
  unfold itAt
  by_cases hh : hasM s.ml x.2 = true
  · have hver := hv x.2 x.1 hl hh
    have hg := get_some hh
    rw [if_pos hh]
    refine ⟨?_, ?_, ?_⟩
    · show lastTok s.log x.2 = some (verM s.ml x.2)
      rw [hl, hver]
    · show itLeft ⟨x.2, verM s.ml x.2, false, txtM s.ml x.2⟩ = (getM s.ml x.2).map (asIt x.2)
      rw [hg]
      rfl
    · show tok < verM s.ml x.2
      rw [hver]
      exact h1
  · rw [if_neg hh]
    refine ⟨hl, ?_, h1⟩
    show itLeft ⟨x.2, x.1, true, []⟩ = (getM s.ml x.2).map (asIt x.2)
    have : getM s.ml x.2 = none := by
      unfold hasM at hh
      cases hg : getM s.ml x.2 with
      | none => rfl
      | some v => rw [hg] at hh; exact absurd rfl hh
    rw [this]
    rfl
/-- What Since tells: the list, its order, nothing left out. -/
structure Whole (s : Cs) (t : Int) (L : List It) : Prop where
  last : ∀ y ∈ L, Last s t y
  all : ∀ u x, lastTok s.log u = some x → t < x → ∃ y ∈ L, y.uid = u
  uniq : Uniq L
  next : L.Pairwise Next
theorem since_whole {s : Cs} (hg : s.Good) (ht : s.Tok) {tok : Int} {L : List It} {err : Int} (h : SinceIs s tok L err) (h0 : tok ≠ 0) (he : err = 0) : Whole s tok L ∧ s.horizon ≤ tok ∧ tok ≤ s.latest := by
  rcases h with ⟨a, b, c⟩ | ⟨a, b, c, d⟩ | ⟨a, b, c, d⟩
  · exact absurd a h0
  · rw [c] at he; cases he
  · rw [outP_eq _ _ _ ht.falls] at d
    have hap := outR_apart s.ml tok s.log.reverse
    refine ⟨⟨fun y hy => out_last hg.ver ht tok y (d.1.mem_iff.1 hy), fun u x hx hlt => ?_, (d.1.pairwise_iff (R := fun x y : It => x.uid ≠ y.uid) (fun h e => h e.symm)).2 hap, sorted_next d hap⟩, ?_, ?_⟩
    · obtain ⟨y, hy, he⟩ := outR_all s.ml tok s.log.reverse (x, u) (List.mem_reverse.2 (lastTok_mem hx)) hlt
      exact ⟨y, d.1.mem_iff.2 hy, he⟩
    · unfold Cs.bad at b; simp at b; omega
    · unfold Cs.bad at b; simp at b; omega

theorem splitG_cut (l : List It) : ∀ f n, splitG l f n = l.length ∨ cutOk l (splitG l f n) = true
  | 0, _ => .inl rfl
  | f + 1, n => by
    unfold splitG
    split
    · split
      · exact .inr (by assumption)
      · exact splitG_cut l f (n + 1)
    · exact .inl rfl
theorem splitP_cut (l : List It) (most : Int) : splitP l most = l.length ∨ cutOk l (splitP l most) = true := splitG_cut _ _ _
theorem next_le {x y : It} (h : Next x y) : x.ver ≤ y.ver := by
  rcases h with h | h
  · omega
  · exact Int.le_of_eq h.1
theorem fold_whole {s : Cs} {t : Int} {L : List It} (hw : Whole s t L) {H : ML It} (hr : Rising H) (h : Upto s H t) : ∀ u, Fits s (foldIts H L) u := by
  intro u
  obtain ⟨h1, h2⟩ := foldIts_get hr hw.uniq u
  unfold Fits
  by_cases hx : ∃ y ∈ L, y.uid = u
  · obtain ⟨y, hy, rfl⟩ := hx
    rw [h1 y hy rfl]
    exact (hw.last y hy).is
  · have hn : ∀ y ∈ L, y.uid ≠ u := fun y hy e => hx ⟨y, hy, e⟩
    rw [h2 hn]
    refine h u fun x hl => ?_
    by_cases c : t < x
    · obtain ⟨y, hy, e⟩ := hw.all u x hl c
      exact absurd e (hn y hy)
    · omega
/-- How many changes are behind t. -/
def cnt (s : Cs) (t : Int) : Nat := s.log.countP fun x => decide (t < x.1)
theorem countP_lt {α : Type} {p q : α → Bool} : ∀ {l : List α}, (∀ x ∈ l, p x = true → q x = true) → (∃ x ∈ l, q x = true ∧ p x = false) → l.countP p < l.countP q
  | [], _, ⟨x, hx, _⟩ => by cases hx
  | a :: l, h1, ⟨x, hx, h2, h3⟩ => by
    have hle : l.countP p ≤ l.countP q := List.countP_mono_left fun y hy => h1 y (List.mem_cons_of_mem _ hy)
    rcases List.mem_cons.1 hx with rfl | hx
    · rw [List.countP_cons_of_pos h2, List.countP_cons_of_neg (by simp [h3])]
      omega
    · have ih := countP_lt (l := l) (fun y hy => h1 y (List.mem_cons_of_mem _ hy)) ⟨x, hx, h2, h3⟩
      rw [List.countP_cons, List.countP_cons]
      by_cases hp : p a = true
      · rw [if_pos hp, if_pos (h1 a (List.mem_cons_self ..) hp)]; omega
      · rw [if_neg hp]; omega
/-- A page taken in. -/
structure Paged (s : Cs) (t : Int) (L p : List It) (t' : Int) (more : Bool) : Prop where
  sub : ∀ y ∈ p, y ∈ L
  uniq : Uniq p
  len : p.length ≤ L.length
  le : t ≤ t'
  lelatest : t' ≤ s.latest
  new : more = true → t < t' ∧ cnt s t' < cnt s t ∧ 1 ≤ cnt s t'
  last : more = false → t' = s.latest
  fits : ∀ H, Rising H → Upto s H t → Upto s (foldIts H p) t'
  done : more = false → ∀ H, Rising H → Upto s H t → ∀ u, Fits s (foldIts H p) u
theorem page_whole {s : Cs} (htk : s.Tok) {t : Int} {L : List It} (hw : Whole s t L) (hle : t ≤ s.latest) (h0 : t ≠ 0) (most : Int) :
    Paged s t L (pageP L t most s.latest).1 (pageP L t most s.latest).2.1 (pageP L t most s.latest).2.2 := by
  unfold pageP
  have hpn : pageN L t most = splitP L most := by unfold pageN; rw [if_neg h0]
  rw [hpn]
  by_cases hq : splitP L most = L.length
  · rw [if_pos hq]
    exact ⟨fun y hy => hy, hw.uniq, Nat.le_refl _, hle, Int.le_refl _, fun h => (by cases h), fun _ => rfl, fun H hr h u _ => fold_whole hw hr h u, fun _ H hr h => fold_whole hw hr h⟩
  · rw [if_neg hq]
    simp only
    have hlt : splitP L most < L.length := by have := splitP_le L most; omega
    have h1 : 1 ≤ splitP L most := (splitP_pos L most).resolve_left hq
    have hcut := (splitP_cut L most).resolve_left hq
    obtain ⟨n, hn⟩ : ∃ n, splitP L most = n := ⟨_, rfl⟩
    rw [hn] at hq hlt h1 hcut ⊢
    have hgd : L.getD (n - 1) default = L[n - 1] := by rw [List.getD_eq_getElem?_getD, List.getElem?_eq_getElem (by omega)]; rfl
    unfold cutOk at hcut
    rw [hgd] at hcut ⊢
    obtain ⟨z, hz⟩ : ∃ z, L[n - 1] = z := ⟨_, rfl⟩
    have hzm : z ∈ L := hz ▸ List.getElem_mem _
    rw [hz] at hcut ⊢
    have hpw := List.pairwise_iff_getElem.1 hw.next
    have hlow : ∀ y ∈ L.take n, y.ver ≤ z.ver := fun y hy => by
      obtain ⟨i, hi, rfl⟩ := List.getElem_of_mem hy
      rw [List.getElem_take]
      have hi2 : i < n := by rw [List.length_take] at hi; omega
      by_cases c : i = n - 1
      · subst c; rw [hz]; exact Int.le_refl _
      · have := next_le (hpw i (n - 1) (by omega) (by omega) (by omega))
        rw [hz] at this
        exact this
    have hhigh : ∀ y ∈ L.drop n, z.ver < y.ver := fun y hy => by
      have hne : y.ver ≠ z.ver := fun e => by
        have : verIs (L.drop n) z.ver = true := by
          unfold verIs
          rw [List.any_eq_true]
          exact ⟨y, hy, by simpa using e⟩
        rw [this] at hcut
        cases hcut
      obtain ⟨i, hi, rfl⟩ := List.getElem_of_mem hy
      rw [List.length_drop] at hi
      rw [List.getElem_drop] at hne ⊢
      have := next_le (hpw (n - 1) (n + i) (by omega) (by omega) (by omega))
      rw [hz] at this
      omega
    have hzt := (hw.last z hzm)
    have hzmem := lastTok_mem hzt.tok
    have hzl := htk.le _ hzmem
    simp only at hzl
    have hzn := hzt.new
    refine ⟨fun y hy => List.mem_of_mem_take hy, ?_, ?_, by omega, hzl, fun _ => ⟨hzn, ?_, ?_⟩, fun h => (by cases h), fun H hr h u hu => ?_, fun h => by cases h⟩
    · exact List.Pairwise.sublist (List.take_sublist _ _) hw.uniq
    · rw [List.length_take]; omega
    · exact countP_lt (fun x _ h => by simp at h ⊢; omega) ⟨_, hzmem, by simp; omega, by simp⟩
    · obtain ⟨y, hy⟩ : ∃ y, y ∈ L.drop n := ⟨(L.drop n)[0]'(by rw [List.length_drop]; omega), List.getElem_mem _⟩
      have h3 := hhigh y hy
      have h4 := lastTok_mem (hw.last y (List.mem_of_mem_drop hy)).tok
      exact List.countP_pos_iff.2 ⟨_, h4, by simpa using h3⟩
    · have hut : Uniq (L.take n) := List.Pairwise.sublist (List.take_sublist _ _) hw.uniq
      obtain ⟨g1, g2⟩ := foldIts_get hr hut u
      unfold Fits
      by_cases hx : ∃ y ∈ L.take n, y.uid = u
      · obtain ⟨y, hy, rfl⟩ := hx
        rw [g1 y hy rfl]
        exact (hw.last y (List.mem_of_mem_take hy)).is
      · have hno : ∀ y ∈ L.take n, y.uid ≠ u := fun y hy e => hx ⟨y, hy, e⟩
        rw [g2 hno]
        refine h u fun x hl => ?_
        by_cases c : t < x
        · exfalso
          obtain ⟨y, hy, e⟩ := hw.all u x hl c
          have hv := (hw.last y hy).tok
          rw [e, hl] at hv
          have hv : x = y.ver := Option.some.inj hv
          have hxz := hu x hl
          rw [← List.take_append_drop n L] at hy
          rcases List.mem_append.1 hy with hy | hy
          · exact hno y hy e
          · have := hhigh y hy; omega
        · omega
/-- All cards, folded into nothing. -/
theorem fold_live {s : Cs} (hr : Rising s.ml) {L : List It} (h : SortedOf (liveL s.ml) L) : ∀ u, Fits s (foldIts [] L) u := by
  intro u
  have hu : Uniq L := (h.1.pairwise_iff (R := fun x y : It => x.uid ≠ y.uid) (fun h e => h e.symm)).2 (live_apart hr)
  obtain ⟨h1, h2⟩ := foldIts_get (ml := []) List.Pairwise.nil hu u
  unfold Fits
  cases hg : getM s.ml u with
  | some v =>
    have hm := getM_mem hg
    have hx : itOf (u, v) ∈ L := h.1.mem_iff.2 (List.mem_map.2 ⟨_, hm, rfl⟩)
    rw [h1 _ hx rfl]
    rfl
  | none =>
    rw [h2 fun y hy e => ?_]
    · rfl
    · obtain ⟨z, hz, rfl⟩ := List.mem_map.1 (h.1.mem_iff.1 hy)
      have := get_mem hr hz
      have e : z.1 = u := e
      rw [e, hg] at this
      cases this
/-- A copy that fits everywhere shows the collection's cards. -/
theorem fits_live {s : Cs} (hr : Rising s.ml) {H : ML It} (hH : Rising H) (h : ∀ u, Fits s H u) : H.map (·.2) = liveL s.ml := by
  have hr2 : Rising (s.ml.map fun e => (e.1, asIt e.1 e.2)) := by
    unfold Rising
    rw [List.pairwise_map]
    exact hr
  have hg : ∀ (ml : ML Ce) k, getM (ml.map fun e => (e.1, asIt e.1 e.2)) k = (getM ml k).map (asIt k) := by
    intro ml k
    induction ml with
    | nil => rfl
    | cons e ml ih =>
      rw [List.map_cons]
      by_cases he : e.1 = k
      · rw [getM_cons_eq he, getM_cons_eq (x := (e.1, asIt e.1 e.2)) he, he]; rfl
      · rw [getM_cons_ne he, getM_cons_ne (x := (e.1, asIt e.1 e.2)) he, ih]
  have e : H = s.ml.map fun e => (e.1, asIt e.1 e.2) := rising_ext hH hr2 fun k => by rw [hg]; exact h k
  rw [e, List.map_map]
  rfl
theorem cnt_step {s : Cs} (o : OpV) (T t : Int) : cnt (s.step o T).2 t ≤ cnt s t + 1 := by
  unfold Cs.step
  split
  · exact Nat.le_succ _
  · show (pushL s.cap s.log (T, o.uid)).countP _ ≤ _
    unfold pushL cnt
    rw [List.countP_append]
    have h1 : (if pushFull s.cap s.log = true then s.log.drop 1 else s.log).countP (fun x => decide (t < x.1)) ≤ s.log.countP (fun x => decide (t < x.1)) := by
      split
      · exact (List.drop_sublist 1 s.log).countP_le
      · exact Nat.le_refl _
    have h2 : [(T, o.uid)].countP (fun x => decide (t < x.1)) ≤ 1 := by rw [List.countP_singleton]; split <;> omega
    omega
theorem cnt_latest {s : Cs} (h : s.Tok) : cnt s s.latest = 0 := by
  unfold cnt
  rw [List.countP_eq_zero]
  intro x hx
  have := h.le x hx
  simp
  omega
/-- Versions from 1 on. -/
structure Cs.Pos (s : Cs) : Prop where
  ml : ∀ e ∈ s.ml, 1 ≤ e.2.ver
  latest : 1 ≤ s.latest
theorem Cs.step_pos {s : Cs} (h : s.Pos) (hok : s.Ok) (o : OpV) {T : Int} (hT : 1 ≤ T) : (s.step o T).2.Pos := by
  unfold Cs.step
  split
  · exact h
  · refine ⟨fun e he => ?_, hT⟩
    have he : e ∈ s.mls o T := he
    unfold Cs.mls at he
    split at he
    · exact h.ml e ((delM_spec o.uid hok.rise).2.2 e he)
    · rcases (putM_spec o.uid ⟨T, o.card⟩ hok.rise).2.2 e he with rfl | he
      · exact hT
      · exact h.ml e he

end Go.Proofs.Ytbeckfnhgeclnaa
/-
  henkeep.Fold, plainly: an item folded into cards that rise by UID.
-/
namespace Go.Proofs.Ytbeckfnhgeclnaa
open Go.RowKit Go.Lib

def stepL (x : It) (st : List It × Bool) (y : It) : List It × Bool :=
  if y.uid = x.uid then st else if st.2 = false ∧ compareBytes x.uid y.uid < 0 then (st.1 ++ [x, y], true) else (st.1 ++ [y], st.2)
def endL (x : It) (st : List It × Bool) : List It := if st.2 = true then st.1 else st.1 ++ [x]
def foldL (l : List It) (x : It) : List It := endL x (l.foldl (stepL x) ([], x.gone))
theorem stepL_snoc (x : It) (l : List It) (k : Nat) (h : k < l.length) (st : List It × Bool) : (l.take (k + 1)).foldl (stepL x) st = stepL x ((l.take k).foldl (stepL x) st) l[k] := by
  rw [List.take_succ_eq_append_getElem h, List.foldl_append]
  rfl
/-- Cards by UID, none gone. -/
def Cards (H : ML It) : Prop := ∀ e ∈ H, e.2.uid = e.1
theorem fold_done (x : It) : ∀ (H : ML It), Cards H → ∀ out, (H.map (·.2)).foldl (stepL x) (out, true) = (out ++ (H.filter fun e => e.1 ≠ x.uid).map (·.2), true)
  | [], _, out => by simp
  | e :: H, hc, out => by
    have he := hc e (List.mem_cons_self ..)
    have ih := fold_done x H (fun y hy => hc y (List.mem_cons_of_mem _ hy))
    rw [List.map_cons, List.foldl_cons]
    unfold stepL
    by_cases h : e.2.uid = x.uid
    · rw [if_pos h]
      have h2 : ¬ e.1 ≠ x.uid := fun hn => hn (he.symm.trans h)
      rw [List.filter_cons_of_neg (by simpa using h2)]
      exact ih out
    · rw [if_neg h, if_neg (by simp)]
      have h2 : e.1 ≠ x.uid := fun hn => h (he.trans hn)
      rw [List.filter_cons_of_pos (by simpa using h2), List.map_cons]
      have := ih (out ++ [e.2])
      unfold stepL at this
      rw [this]
      simp
theorem filter_all {H : ML It} {u : List UInt8} (h : ∀ e ∈ H, e.1 ≠ u) : (H.filter fun e => e.1 ≠ u) = H := by
  rw [List.filter_eq_self]
  intro e he
  simpa using h e he
theorem above {e : List UInt8 × It} {H : ML It} (hr : Rising (e :: H)) {u : List UInt8} (h : ¬ compareBytes e.1 u < 0) : ∀ y ∈ H, compareBytes u y.1 < 0 := by
  intro y hy
  have h1 := hr.head y hy
  by_cases he : e.1 = u
  · rw [← he]; exact h1
  · exact cmp_trans (cmp_not h he) h1
theorem delM_filter : ∀ {H : ML It} (u : List UInt8), Rising H → delM H u = H.filter fun e => e.1 ≠ u
  | [], u, _ => by simp [delM, hasM, getM]
  | e :: H, u, hr => by
    by_cases h : compareBytes e.1 u < 0
    · rw [delM_cons_lt h, List.filter_cons_of_pos (by simpa using cmp_ne h), delM_filter u hr.tail]
    · have ha := above hr h
      have hf : (H.filter fun e => e.1 ≠ u) = H := filter_all fun y hy he => cmp_ne (ha y hy) he.symm
      by_cases he : e.1 = u
      · rw [List.filter_cons_of_neg (by simpa using he), hf]
        simp [delM, hasM_cons_eq he, place_cons_ge hr h]
      · rw [List.filter_cons_of_pos (by simpa using he), hf]
        simp [delM, hasM_cons_gt hr h he]
/-- Behind the place. -/
theorem fold_above (x : It) : ∀ (H : ML It), Cards H → (∀ y ∈ H, compareBytes x.uid y.1 < 0) → ∀ out, endL x ((H.map (·.2)).foldl (stepL x) (out, false)) = out ++ x :: H.map (·.2)
  | [], _, _, out => by simp [endL]
  | e :: H, hc, ha, out => by
    have he := hc e (List.mem_cons_self ..)
    have h1 := ha e (List.mem_cons_self ..)
    rw [List.map_cons, List.foldl_cons]
    have hs : stepL x (out, false) e.2 = (out ++ [x, e.2], true) := by
      unfold stepL
      rw [if_neg (by rw [he]; exact fun h => cmp_ne h1 h.symm), if_pos ⟨rfl, by rw [he]; exact h1⟩]
    rw [hs, fold_done x H (fun y hy => hc y (List.mem_cons_of_mem _ hy)), filter_all fun y hy hh => cmp_ne (ha y (List.mem_cons_of_mem _ hy)) hh.symm]
    simp [endL]
theorem fold_put (x : It) : ∀ (H : ML It), Rising H → Cards H → ∀ out, endL x ((H.map (·.2)).foldl (stepL x) (out, false)) = out ++ (putM H x.uid x).map (·.2)
  | [], _, _, out => by simp [endL, putM, hasM, getM, place]
  | e :: H, hr, hc, out => by
    have he := hc e (List.mem_cons_self ..)
    have hcH : Cards H := fun y hy => hc y (List.mem_cons_of_mem _ hy)
    by_cases h : compareBytes e.1 x.uid < 0
    · have hs : stepL x (out, false) e.2 = (out ++ [e.2], false) := by
        unfold stepL
        have h2 : ¬ compareBytes x.uid e.1 < 0 := fun h2 => by
          have := cmp_trans h h2
          rw [cmp_self] at this
          omega
        rw [if_neg (by rw [he]; exact cmp_ne h), if_neg (by rw [he]; exact fun hh => h2 hh.2)]
      rw [List.map_cons, List.foldl_cons, hs, fold_put x H hr.tail hcH, putM_cons_lt h]
      simp
    · have ha := above hr h
      by_cases hh : e.1 = x.uid
      · have hs : stepL x (out, false) e.2 = (out, false) := by unfold stepL; rw [if_pos (he.trans hh)]
        rw [List.map_cons, List.foldl_cons, hs, fold_above x H hcH ha]
        have e1 : putM (e :: H) x.uid x = (x.uid, x) :: H := by simp [putM, hasM_cons_eq hh, place_cons_ge hr h]
        rw [e1]
        rfl
      · have e1 : putM (e :: H) x.uid x = (x.uid, x) :: e :: H := by simp [putM, hasM_cons_gt hr h hh, place_cons_ge hr h]
        have h3 : ∀ y ∈ e :: H, compareBytes x.uid y.1 < 0 := fun y hy => by
          rcases List.mem_cons.1 hy with rfl | hy
          · exact cmp_not h hh
          · exact ha y hy
        rw [fold_above x (e :: H) hc h3, e1]
        rfl
theorem foldL_is {H : ML It} (hr : Rising H) (hc : Cards H) (x : It) : foldL (H.map (·.2)) x = (stepIt H x).map (·.2) := by
  obtain ⟨u, v, g, c⟩ := x
  unfold foldL stepIt
  cases g with
  | true =>
    rw [fold_done _ H hc, if_pos rfl, delM_filter u hr]
    simp [endL]
  | false =>
    rw [fold_put ⟨u, v, false, c⟩ H hr hc, if_neg (by simp)]
    simp
theorem stepIt_cards {H : ML It} (hr : Rising H) (hc : Cards H) (x : It) : Cards (stepIt H x) := by
  intro e he
  unfold stepIt at he
  split at he
  · exact hc e ((delM_spec x.uid hr).2.2 e he)
  · rcases (putM_spec x.uid _ hr).2.2 e he with rfl | he
    · rfl
    · exact hc e he
theorem foldL_len (l : List It) (x : It) : (foldL l x).length ≤ l.length + 1 := by
  have h : ∀ (l : List It) (st : List It × Bool), (l.foldl (stepL x) st).1.length + (if (l.foldl (stepL x) st).2 = true then 0 else 1) ≤ st.1.length + l.length + (if st.2 = true then 0 else 1) := by
    intro l
    induction l with
    | nil => intro st; exact Nat.le_refl _
    | cons y l ih =>
      intro st
      have h1 := ih (stepL x st y)
      have h2 : (stepL x st y).1.length + (if (stepL x st y).2 = true then 0 else 1) ≤ st.1.length + 1 + (if st.2 = true then 0 else 1) := by
        unfold stepL
        split
        · omega
        · split
          · rename_i hh; rw [hh.1]; simp
          · simp
      rw [List.foldl_cons, List.length_cons]
      omega
  have := h l ([], x.gone)
  unfold foldL endL
  split
  · rename_i hh
    rw [hh] at this
    simp at this
    split at this <;> omega
  · rename_i hh
    rw [if_neg hh] at this
    rw [List.length_append]
    simp at this ⊢
    split at this <;> omega

end Go.Proofs.Ytbeckfnhgeclnaa
/-
  henkeep.Fold.
-/
namespace Go.Proofs.Ytbeckfnhgeclnaa
open Go.RowKit Go.Lib

theorem foldl_len (x : It) : ∀ (l : List It) (st : List It × Bool), (l.foldl (stepL x) st).1.length ≤ st.1.length + 2 * l.length := by
  intro l
  induction l with
  | nil => intro st; simp
  | cons y l ih =>
    intro st
    have h1 := ih (stepL x st y)
    have h2 : (stepL x st y).1.length ≤ st.1.length + 2 := by
      unfold stepL
      split
      · omega
      · split <;> simp
    rw [List.foldl_cons, List.length_cons]
    omega

theorem fold_fits (m : Nat) (h : m ≤ 2000000) : m + 1 ≤ maxLen ∧ m + 1 + 1 ≤ maxLen ∧ (m + 1) * 48 ≤ 140737488355328 ∧ (m + 1 + 1) * 48 ≤ 140737488355328 := by
  unfold maxLen
  omega

set_option maxRecDepth 100000 in
set_option maxHeartbeats 4000000 in
theorem kfold_calls (w : World) (A : Option Addr) (n c : Nat) (l : List It) (x : It) (hr : Rds w A n 4 (itsEnc l)) (hn : n = l.length) (hm : n ≤ 1000000) :
    Calls Try.prog 53 #[.slice A n c, .agg (itEnc x).toArray] w fun e w' => ∃ A' c', e = .returned (.slice A' (foldL l x).length c') ∧ Row w' (From w.heap.size) 41 4 A' (foldL l x).length c' (itsEnc (foldL l x)) ∧ Below w.heap.size w w' := by
  obtain ⟨i0, hi, hz0, hz1, hz2⟩ := info_parts itInfo
  have HR := hd hr
  have HN := hd hn
  have HONE : Hd (∀ x : It, ∀ z ∈ itEnc x, z.oneCell' = true) := hd itEnc_one
  obtain ⟨F, hF⟩ : ∃ F, foldL l x = F := ⟨_, rfl⟩
  obtain ⟨st, hst⟩ : ∃ f : Nat → List It × Bool, f = fun k => (l.take k).foldl (stepL x) ([], x.gone) := ⟨_, rfl⟩
  have H0 : Hd (st 0 = ([], x.gone)) := hd (by rw [hst]; rfl)
  have HSN : Hd (∀ k (h : k < l.length), st (k + 1) = stepL x (st k) l[k]) := hd (fun k h => by rw [hst]; exact stepL_snoc x l k h _)
  have HEND : Hd (F = endL x (st n)) := hd (by rw [← hF, hst]; simp only [foldL]; rw [List.take_of_length_le (by rw [hn]; exact Nat.le_refl _)])
  have HLEN : Hd (∀ k, (st k).1.length ≤ 2 * k) := hd (fun k => by
    rw [hst]
    have h1 := foldl_len x (l.take k) ([], x.gone)
    have h2 : (l.take k).length ≤ k := by rw [List.length_take]; omega
    simp only [List.length_nil] at h1
    exact Nat.le_trans h1 (by omega))
  rw [hF]
  obtain ⟨xu, xv, xg, xc⟩ := x
  simp only [itEnc] at HONE ⊢
  have hbx := Blk.new w 41 #[.string (bs xu), .int .i64 xv, .bool xg, .string (bs xc)]
  have HW1 : Hd (Below w.heap.size w (w.alloc (.cells #[.string (bs xu), .int .i64 xv, .bool xg, .string (bs xc)] 41))) := hd ((Below.refl _ w).alloc (Nat.le_refl _) _)
  simp only at H0
  clear hr hn hF hst
  go_enter Try.func53, Try.ntmps53
  go_wp2_with fail
  obtain ⟨w1, hw1⟩ : ∃ w1, w1 = w.alloc (.cells #[.string (bs xu), .int .i64 xv, .bool xg, .string (bs xc)] 41) := ⟨_, rfl⟩
  rw [← hw1]
  rw [← hw1] at hbx HW1
  have HBX := hd hbx
  have HSZ : Hd (w1.heap.size = w.heap.size + 1) := hd (by rw [hw1]; simp)
  clear hbx hw1
  have x2 := HBX.o.at_ 2 rfl
  go_wp2_with fail
  clear x2
  go_loopw [7, 5, 6] (fun i so sd wr => ∃ (k m : Nat) (A' : Option Addr) (c' : Nat) (db : Bool), i = .int .i64 k ∧ k ≤ n ∧ so = .slice A' m c' ∧ sd = .bool db ∧ m ≤ 2 * k ∧ Hd ((st k).1.length = m ∧ (st k).2 = db) ∧ Hd (Row wr (From w1.heap.size) 41 4 A' m c' (itsEnc (st k).1)) ∧ Hd (RB w1 wr)) (fun i _ _ _ => n - (intOf i).toNat)
  case atStart => exact ⟨0, 0, none, 0, xg, rfl, Nat.zero_le _, rfl, rfl, Nat.le_refl _, hd (by rw [H0.o]; exact ⟨rfl, rfl⟩), hd (by rw [H0.o]; exact Row.nil _ _ _ _), hd ⟨Below.refl _ _⟩⟩
  case round =>
    obtain ⟨k, m, A', c', db, rfl, hk, rfl, rfl, hmk, HM, HROW, HRB⟩ := hrel
    have hki : (0 : Int) ≤ (k : Int) := by omega
    by_cases hlt : k < n
    · have hlti : (k : Int) < (n : Int) := by omega
      have hkl : k < l.length := by rw [← HN.o]; exact hlt
      obtain ⟨ga, oa, rfl, hga, hc⟩ := HR.o.at_ (by omega)
      obtain ⟨y, hy⟩ : ∃ y, l[k]'hkl = y := ⟨_, rfl⟩
      have hsn := HSN.o k hkl
      rw [hy] at hsn
      obtain ⟨hmm, hmm2, hby, hby2⟩ := fold_fits m (by omega)
      have HSNX := hd hsn
      clear hsn
      have HCELL := hd (fun (W : World) (hW : RB w1 W) (j : Nat) (u : Value) (hj : j < 4) (hv : (itEnc y)[j]? = some u) => ((HW1.o.trans (hW.below.mono (by have := HSZ.o; omega))).cell (p := ⟨ga, oa + (k * 4 + j), none⟩) hga).trans (hc _ _ ((flat_at itEnc 4 itEnc_len l k hkl j hj).trans (by rw [hy]; exact hv))))
      have HBOX := hd (fun (W : World) (hW : RB w1 W) => HBX.o.below hW.below HBX.o.lt)
      obtain ⟨yu, yv, yg, yc⟩ := y
      have heq := rstr_eq yu xu
      have hgl := rstr_less yu xu
      rw [geq_dec, Bool.not_not] at hgl
      have k0 := HCELL.o wr HRB.o 0 _ (by omega) rfl
      rw [← Nat.add_assoc] at k0
      rw [Nat.add_zero] at k0
      have b0 := (HBOX.o wr HRB.o).at_ 0 rfl
      clear hc hy hkl
      by_cases e1 : yu = xu
      · have e1b : decide (yu = xu) = true := by simpa using e1
        rw [e1b] at heq
        have HS2 : Hd (st (k + 1) = st k) := hd (by rw [HSNX.o]; unfold stepL; rw [if_pos e1])
        clear e1 e1b hgl
        go_wp2_with fail
        go_quiet (fail)
        go_wp2
        go_roundw
        case rel => exact ⟨k + 1, m, A', c', db, by go_num, by omega, rfl, rfl, by omega, hd (by rw [HS2.o]; exact HM.o), hd (by rw [HS2.o]; exact HROW.o.drewN _), hd (HRB.o.drewN _)⟩
        case measure => simp [intOf]; omega
      · have e1b : decide (yu = xu) = false := by simpa using e1
        rw [e1b] at heq
        by_cases e2 : db = false ∧ compareBytes xu yu < 0
        · obtain ⟨rfl, e2⟩ := e2
          have hcy : ¬ compareBytes yu xu < 0 := fun h2 => by
            have := cmp_trans e2 h2
            rw [cmp_self] at this
            omega
          have e2b : decide (compareBytes yu xu < 0) = false := by simpa using hcy
          rw [e2b] at hgl
          have HS2 : Hd (st (k + 1) = ((st k).1 ++ [⟨xu, xv, xg, xc⟩, ⟨yu, yv, yg, yc⟩], true)) := hd (by rw [HSNX.o]; unfold stepL; rw [if_neg e1, if_pos ⟨HM.o.2, e2⟩])
          clear e1 e1b e2 e2b hcy
          go_wp2_with fail
          go_quiet (fail)
          obtain ⟨wa, hwa⟩ : ∃ wa, wa = wr.drewN nq := ⟨_, rfl⟩
          have HRBwa : Hd (RB w1 wa) := hd (by rw [hwa]; exact HRB.o.drewN _)
          have HROWwa : Hd (Row wa (From w1.heap.size) 41 4 A' m c' (itsEnc (st k).1)) := hd (by rw [hwa]; exact HROW.o.drewN _)
          rw [← hwa]
          clear hwa
          clear k0 b0
          have k0 := HCELL.o wa HRBwa.o 0 _ (by omega) rfl
          rw [← Nat.add_assoc] at k0
          rw [Nat.add_zero] at k0
          have b0 : wa.cell? ⟨w.heap.size, 0, none⟩ = some (.string (bs xu)) := (HBOX.o wa HRBwa.o).at_ 0 rfl
          go_wp2_with fail
          go_quiet (fail)
          obtain ⟨wj, hwj⟩ : ∃ wj, wj = wa.drewN nq := ⟨_, rfl⟩
          have HRBwj : Hd (RB w1 wj) := hd (by rw [hwj]; exact HRBwa.o.drewN _)
          have HROWwj : Hd (Row wj (From w1.heap.size) 41 4 A' m c' (itsEnc (st k).1)) := hd (by rw [hwj]; exact HROWwa.o.drewN _)
          rw [← hwj]
          clear hwj
          clear k0 b0
          have b0 : wj.cell? ⟨w.heap.size, 0, none⟩ = some (.string (bs xu)) := (HBOX.o wj HRBwj.o).at_ 0 rfl
          have b1 : wj.cell? ⟨w.heap.size, 1, none⟩ = some (.int .i64 xv) := (HBOX.o wj HRBwj.o).at_ 1 rfl
          have b2 : wj.cell? ⟨w.heap.size, 2, none⟩ = some (.bool xg) := (HBOX.o wj HRBwj.o).at_ 2 rfl
          have b3 : wj.cell? ⟨w.heap.size, 3, none⟩ = some (.string (bs xc)) := (HBOX.o wj HRBwj.o).at_ 3 rfl
          have tok1 : True := trivial
          have tok2 : True := trivial
          go_wp2_with (first | (at_builtin; have _t := tok1; refine wpList_append_row rfl _ _ 28 rfl (From w1.heap.size) 41 i0 (.agg #[.string ⟨#[]⟩, .int .i64 0, .bool false, .string ⟨#[]⟩]) 4 48 Try.underlying28 hi hz0 hz1 hz2 rfl A' m c' (itsEnc (st k).1) rfl (HROWwj.o.alloc _) ⟨wj.heap.size, 0, none⟩ 1 1 [.string (bs xu), .int .i64 xv, .bool xg, .string (bs xc)] rfl rfl (cells_at (Blk.new_ _ _ rfl 41 _) rfl) (HONE.o ⟨xu, xv, xg, xc⟩) (by omega) hmm hby ?_; intro E4 eE4 w4 hr4 hc4; have HBw4 := hd (RB.both (w := w1) (HRBwj.o.alloc _) hr4 hc4); have HRBw4 := hd HBw4.o.1; have k0 := HCELL.o w4 HRBw4.o 0 _ (by decide) rfl; have k1 := HCELL.o w4 HRBw4.o 1 _ (by decide) rfl; have k2 := HCELL.o w4 HRBw4.o 2 _ (by decide) rfl; have k3 := HCELL.o w4 HRBw4.o 3 _ (by decide) rfl; rw [← Nat.add_assoc] at k0 k1 k2 k3; rw [Nat.add_zero] at k0; have HROWw4 : Hd (Row w4 (From w1.heap.size) 41 4 E4 (m + 1) eE4 (itsEnc ((st k).1 ++ [⟨xu, xv, xg, xc⟩]))) := hd ((its_app _ _).symm ▸ HBw4.o.2); clear hr4 hc4 tok1) | (at_builtin; have _t := tok2; refine wpList_append_row rfl _ _ 28 rfl (From w1.heap.size) 41 i0 (.agg #[.string ⟨#[]⟩, .int .i64 0, .bool false, .string ⟨#[]⟩]) 4 48 Try.underlying28 hi hz0 hz1 hz2 rfl E4 (m + 1) eE4 (itsEnc ((st k).1 ++ [⟨xu, xv, xg, xc⟩])) rfl (HROWw4.o.alloc _) ⟨w4.heap.size, 0, none⟩ 1 1 [.string (bs yu), .int .i64 yv, .bool yg, .string (bs yc)] rfl rfl (cells_at (Blk.new_ _ _ rfl 41 _) rfl) (HONE.o ⟨yu, yv, yg, yc⟩) (by omega) hmm2 hby2 ?_; intro E5 eE5 w5 hr4 hc4; have HBw5 := hd (RB.both (w := w1) (HRBw4.o.alloc _) hr4 hc4); clear hr4 hc4 tok2))
          have HN : Hd ((st (k + 1)).1.length = m + 1 + 1 ∧ (st (k + 1)).2 = true) := hd (by rw [HS2.o]; exact ⟨by rw [List.length_append, HM.o.1]; rfl, rfl⟩)
          have HN2 : Hd (Row w5 (From w1.heap.size) 41 4 E5 (m + 1 + 1) eE5 (itsEnc (st (k + 1)).1)) := hd (by
            rw [HS2.o]
            show Row _ _ _ _ _ _ _ (itsEnc ((st k).1 ++ [⟨xu, xv, xg, xc⟩, ⟨yu, yv, yg, yc⟩]))
            rw [show (st k).1 ++ [(⟨xu, xv, xg, xc⟩ : It), ⟨yu, yv, yg, yc⟩] = ((st k).1 ++ [⟨xu, xv, xg, xc⟩]) ++ [⟨yu, yv, yg, yc⟩] by simp, its_app]
            exact HBw5.o.2)
          go_roundw
          case rel => exact ⟨k + 1, m + 1 + 1, E5, eE5, true, by go_num, by omega, rfl, rfl, by omega, HN, HN2, hd HBw5.o.1⟩
          case measure => simp [intOf]; omega
        · have HS2 : Hd (st (k + 1) = ((st k).1 ++ [⟨yu, yv, yg, yc⟩], db)) := hd (by rw [HSNX.o]; unfold stepL; rw [if_neg e1, if_neg (by rw [HM.o.2]; exact e2), HM.o.2])
          have HN : Hd ((st (k + 1)).1.length = m + 1 ∧ (st (k + 1)).2 = db) := hd (by rw [HS2.o]; exact ⟨by rw [List.length_append, HM.o.1]; rfl, rfl⟩)
          have HROWQ : Hd (∀ (E : Option Addr) (e : Nat) (w5 : World), Row w5 (From w1.heap.size) 41 4 E (m + 1) e (itsEnc (st k).1 ++ itEnc ⟨yu, yv, yg, yc⟩) → Row w5 (From w1.heap.size) 41 4 E (m + 1) e (itsEnc (st (k + 1)).1)) := hd (fun E e w5 h => by rw [HS2.o, its_app]; exact h)
          go_wp2_with fail
          go_quiet (fail)
          obtain ⟨wa, hwa⟩ : ∃ wa, wa = wr.drewN nq := ⟨_, rfl⟩
          have HRBwa : Hd (RB w1 wa) := hd (by rw [hwa]; exact HRB.o.drewN _)
          have HROWwa : Hd (Row wa (From w1.heap.size) 41 4 A' m c' (itsEnc (st k).1)) := hd (by rw [hwa]; exact HROW.o.drewN _)
          rw [← hwa]
          clear hwa
          clear k0 b0
          cases db with
          | true =>
            clear hgl heq e1 e1b e2 HS2
            go_wp2_with fail
            go_quiet (fail)
            obtain ⟨wj, hwj⟩ : ∃ wj, wj = wa.drewN nq := ⟨_, rfl⟩
            have HRBwj : Hd (RB w1 wj) := hd (by rw [hwj]; exact HRBwa.o.drewN _)
            have HROWwj : Hd (Row wj (From w1.heap.size) 41 4 A' m c' (itsEnc (st k).1)) := hd (by rw [hwj]; exact HROWwa.o.drewN _)
            rw [← hwj]
            clear hwj
            have k0 := HCELL.o wj HRBwj.o 0 _ (by omega) rfl
            have k1 := HCELL.o wj HRBwj.o 1 _ (by omega) rfl
            have k2 := HCELL.o wj HRBwj.o 2 _ (by omega) rfl
            have k3 := HCELL.o wj HRBwj.o 3 _ (by omega) rfl
            rw [← Nat.add_assoc] at k0 k1 k2 k3
            rw [Nat.add_zero] at k0
            have tok2 : True := trivial
            go_wp2_with (at_builtin; have _t := tok2; refine wpList_append_row rfl _ _ 28 rfl (From w1.heap.size) 41 i0 (.agg #[.string ⟨#[]⟩, .int .i64 0, .bool false, .string ⟨#[]⟩]) 4 48 Try.underlying28 hi hz0 hz1 hz2 rfl A' m c' (itsEnc (st k).1) rfl (HROWwj.o.alloc _) ⟨wj.heap.size, 0, none⟩ 1 1 [.string (bs yu), .int .i64 yv, .bool yg, .string (bs yc)] rfl rfl (cells_at (Blk.new_ _ _ rfl 41 _) rfl) (HONE.o ⟨yu, yv, yg, yc⟩) (by omega) hmm hby ?_; intro E5 eE5 w5 hr4 hc4; have HBw5 := hd (RB.both (w := w1) (HRBwj.o.alloc _) hr4 hc4); clear hr4 hc4 tok2)
            go_roundw
            case rel => exact ⟨k + 1, m + 1, E5, eE5, true, by go_num, by omega, rfl, rfl, by omega, HN, hd (HROWQ.o _ _ _ HBw5.o.2), hd HBw5.o.1⟩
            case measure => simp [intOf]; omega
          | false =>
            have hlt2 : decide (compareBytes yu xu < 0) = true := by
              have h2 : ¬ compareBytes xu yu < 0 := fun h => e2 ⟨rfl, h⟩
              simpa using cmp_not h2 (fun h => e1 h.symm)
            rw [hlt2] at hgl
            clear e1 e1b e2 HS2 hlt2
            have k0 := HCELL.o wa HRBwa.o 0 _ (by omega) rfl
            rw [← Nat.add_assoc] at k0
            rw [Nat.add_zero] at k0
            have b0 : wa.cell? ⟨w.heap.size, 0, none⟩ = some (.string (bs xu)) := (HBOX.o wa HRBwa.o).at_ 0 rfl
            go_wp2_with fail
            go_quiet (fail)
            obtain ⟨wj, hwj⟩ : ∃ wj, wj = wa.drewN nq := ⟨_, rfl⟩
            have HRBwj : Hd (RB w1 wj) := hd (by rw [hwj]; exact HRBwa.o.drewN _)
            have HROWwj : Hd (Row wj (From w1.heap.size) 41 4 A' m c' (itsEnc (st k).1)) := hd (by rw [hwj]; exact HROWwa.o.drewN _)
            rw [← hwj]
            clear hwj
            clear k0 b0
            have k0 := HCELL.o wj HRBwj.o 0 _ (by omega) rfl
            have k1 := HCELL.o wj HRBwj.o 1 _ (by omega) rfl
            have k2 := HCELL.o wj HRBwj.o 2 _ (by omega) rfl
            have k3 := HCELL.o wj HRBwj.o 3 _ (by omega) rfl
            rw [← Nat.add_assoc] at k0 k1 k2 k3
            rw [Nat.add_zero] at k0
            have tok2 : True := trivial
            go_wp2_with (at_builtin; have _t := tok2; refine wpList_append_row rfl _ _ 28 rfl (From w1.heap.size) 41 i0 (.agg #[.string ⟨#[]⟩, .int .i64 0, .bool false, .string ⟨#[]⟩]) 4 48 Try.underlying28 hi hz0 hz1 hz2 rfl A' m c' (itsEnc (st k).1) rfl (HROWwj.o.alloc _) ⟨wj.heap.size, 0, none⟩ 1 1 [.string (bs yu), .int .i64 yv, .bool yg, .string (bs yc)] rfl rfl (cells_at (Blk.new_ _ _ rfl 41 _) rfl) (HONE.o ⟨yu, yv, yg, yc⟩) (by omega) hmm hby ?_; intro E5 eE5 w5 hr4 hc4; have HBw5 := hd (RB.both (w := w1) (HRBwj.o.alloc _) hr4 hc4); clear hr4 hc4 tok2)
            go_roundw
            case rel => exact ⟨k + 1, m + 1, E5, eE5, false, by go_num, by omega, rfl, rfl, by omega, HN, hd (HROWQ.o _ _ _ HBw5.o.2), hd HBw5.o.1⟩
            case measure => simp [intOf]; omega
    · obtain rfl : k = n := by omega
      obtain ⟨hmm, _, hby, _⟩ := fold_fits m (by omega)
      have HRBwr := hd HRB.o
      have HBOX := hd (fun (W : World) (hW : RB w1 W) => HBX.o.below hW.below HBX.o.lt)
      have HBF : Hd (∀ W, RB w1 W → Below w.heap.size w W) := hd (fun W hW => HW1.o.trans (hW.below.mono (by have := HSZ.o; omega)))
      have HFR : Hd (∀ q, From w1.heap.size q → From w.heap.size q) := hd (fun q hq => by have h1 : w1.heap.size ≤ q := hq; have h2 := HSZ.o; show w.heap.size ≤ q; omega)
      cases db with
      | true =>
        have HF : Hd (F = (st k).1) := hd (by rw [HEND.o]; unfold endL; rw [if_pos HM.o.2])
        go_wp2
        go_ret
        rw [HF.o, HM.o.1]
        exact ⟨A', c', rfl, HROW.o.mono HFR.o, HBF.o _ HRB.o⟩
      | false =>
        have HF : Hd (F = (st k).1 ++ [⟨xu, xv, xg, xc⟩]) := hd (by rw [HEND.o]; unfold endL; rw [if_neg (by rw [HM.o.2]; simp)])
        have b0 : wr.cell? ⟨w.heap.size, 0, none⟩ = some (.string (bs xu)) := (HBOX.o wr HRBwr.o).at_ 0 rfl
        have b1 : wr.cell? ⟨w.heap.size, 1, none⟩ = some (.int .i64 xv) := (HBOX.o wr HRBwr.o).at_ 1 rfl
        have b2 : wr.cell? ⟨w.heap.size, 2, none⟩ = some (.bool xg) := (HBOX.o wr HRBwr.o).at_ 2 rfl
        have b3 : wr.cell? ⟨w.heap.size, 3, none⟩ = some (.string (bs xc)) := (HBOX.o wr HRBwr.o).at_ 3 rfl
        have tok2 : True := trivial
        go_wp2_with (at_builtin; have _t := tok2; refine wpList_append_row rfl _ _ 28 rfl (From w1.heap.size) 41 i0 (.agg #[.string ⟨#[]⟩, .int .i64 0, .bool false, .string ⟨#[]⟩]) 4 48 Try.underlying28 hi hz0 hz1 hz2 rfl A' m c' (itsEnc (st k).1) rfl (HROW.o.alloc _) ⟨wr.heap.size, 0, none⟩ 1 1 [.string (bs xu), .int .i64 xv, .bool xg, .string (bs xc)] rfl rfl (cells_at (Blk.new_ _ _ rfl 41 _) rfl) (HONE.o ⟨xu, xv, xg, xc⟩) (by omega) hmm hby ?_; intro E5 eE5 w5 hr4 hc4; have HBw5 := hd (RB.both (w := w1) (HRB.o.alloc _) hr4 hc4); clear hr4 hc4 tok2)
        go_ret
        rw [HF.o, its_app, List.length_append, HM.o.1]
        exact ⟨E5, eE5, rfl, HBw5.o.2.mono HFR.o, HBF.o _ HBw5.o.1⟩

end Go.Proofs.Ytbeckfnhgeclnaa
/-
  Page of a law's own collection; folding items.
-/
namespace Go.Proofs.Ytbeckfnhgeclnaa
open Go.RowKit Go.Lib

theorem OwnC.drewN {B : Nat} {w wr : World} {b : Nat} {s : Cs} (h : OwnC B w wr b s) (q : Nat) : OwnC B w (wr.drewN q) b s := h.bel (below_drewN wr q)
theorem ownc_since1 {B : Nat} {w wr : World} {b1 : Nat} {s1 : Cs} (h : OwnC B w wr b1 s1) (tok : Int) (hl : s1.ml.length ≤ 1000000) (hlg : s1.log.length ≤ 1000000) :
    Calls Try.prog 34 #[.pointer (some ⟨b1, 0, none⟩), .int .i64 tok] wr fun e w' => ∃ l' err A c, e = .returned (.tuple #[.slice A l'.length c, .int .i64 err]) ∧ SinceIs s1 tok l' err ∧ Row w' (From wr.heap.size) 41 4 A l'.length c (itsEnc l') ∧ OwnC B w w' b1 s1 ∧ Below wr.heap.size wr w' :=
  (ownc_since h tok hl hlg).mono fun e w' ⟨l', err, A, c, he, hs, hr, hb⟩ => ⟨l', err, A, c, he, hs, hr, h.bel hb, hb⟩
set_option maxRecDepth 100000 in
set_option maxHeartbeats 4000000 in
theorem ownc_page {B : Nat} {w wr : World} {b1 : Nat} {s1 : Cs} (h : OwnC B w wr b1 s1) (tok most : Int) (hl : s1.ml.length ≤ 1000000) (hlg : s1.log.length ≤ 1000000) :
    Calls Try.prog 50 #[.pointer (some ⟨b1, 0, none⟩), .int .i64 tok, .int .i64 most] wr fun e w' => ∃ l' err A c, e = .returned (.tuple #[.slice A (pageR l' tok most s1.latest err).1.length c, .int .i64 (pageR l' tok most s1.latest err).2.1, .bool (pageR l' tok most s1.latest err).2.2, .int .i64 err]) ∧ SinceIs s1 tok l' err ∧ Rds w' A (pageR l' tok most s1.latest err).1.length 4 (itsEnc (pageR l' tok most s1.latest err).1) ∧ OwnC B w w' b1 s1 ∧ Below wr.heap.size wr w' := by
  have HS := hd (ownc_since1 h tok hl hlg)
  have HLA := hd (fun (w' : World) (h' : OwnC B w w' b1 s1) => (by
    obtain ⟨S, ⟨mb, rb, S1, S2, hb, _⟩, _⟩ := h'.ex
    exact hb.at_ 4 rfl : w'.cell? ⟨b1, 4, none⟩ = some (.int .i64 s1.latest)))
  generalize s1.latest = la at *
  clear h
  go_enter Try.func50, Try.ntmps50
  go_wp2_with fail
  refine HS.o.mono ?_
  rintro e w2 ⟨l', err, A, c, rfl, hs, hr, hO, hb⟩
  have HSI := hd hs
  have HROW := hd hr
  have HO := hd hO
  have HB := hd hb
  have hle := since_len hs
  have hcap := hr.cap
  clear hs hr hO hb HS
  by_cases he : err = 0
  · subst he
    have hpr : ∀ la, pageR l' tok most la 0 = pageP l' tok most la := fun la => by unfold pageR; rw [if_pos rfl]
    have HPR := hd hpr
    have HPN : Hd (pageN l' tok most ≤ l'.length ∧ (pageN l' tok most = l'.length ∨ 1 ≤ pageN l' tok most)) := hd (by
      unfold pageN
      split
      · exact ⟨Nat.le_refl _, .inl rfl⟩
      · exact ⟨splitP_le _ _, splitP_pos _ _⟩)
    have HSP := hd (csplit_calls w2 A l'.length c l' most HROW.o.rds rfl (by omega) hcap.1)
    have HPZ : Hd (tok = 0 → pageN l' tok most = l'.length) := hd (fun h => by unfold pageN; rw [if_pos h])
    have HPS : Hd (tok ≠ 0 → splitP l' most = pageN l' tok most) := hd (fun h => by unfold pageN; rw [if_neg h])
    have HPP : Hd (pageP l' tok most la = if pageN l' tok most = l'.length then (l', la, false) else (l'.take (pageN l' tok most), (l'.getD (pageN l' tok most - 1) default).ver, true)) := hd rfl
    obtain ⟨q, hq⟩ : ∃ q, l'.length = q := ⟨_, rfl⟩
    obtain ⟨pn, hpn⟩ : ∃ q, pageN l' tok most = q := ⟨_, rfl⟩
    have HQ := hd hq
    rw [hq] at HPN HSP HPZ HPP HROW hle hcap
    rw [hpn] at HPN HPZ HPS HPP
    simp only [hq]
    clear hq hpn hpr
    have l4 := HLA.o w2 HO.o
    have HSP2 : Hd (tok ≠ 0 → Calls Try.prog 48 #[.slice A q c, .int .i64 most] w2 fun e w' => e = .returned (.int .i64 (pn : Nat)) ∧ Below w2.heap.size w2 w') := hd (fun h => by rw [← HPS.o h]; exact HSP.o)
    clear HSP
    go_upto_if 23 with (fail)
    go_cut [10] from 23 to 26 (fun s10 wx => s10 = .int .i64 (pn : Nat) ∧ Hd (Below w2.heap.size w2 wx))
    case first =>
      by_cases ht : tok = 0
      · have f1 : (tok != 0) = false := by simpa using ht
        have hpq := HPZ.o ht
        clear ht
        subst hpq
        go_wp2_with fail
        go_meet
        exact ⟨rfl, hd (Below.refl _ _)⟩
      · have f1 : (tok != 0) = true := by simpa using ht
        have HC := hd (HSP2.o ht)
        clear ht
        go_wp2_with fail
        refine HC.o.mono ?_
        rintro e w3 ⟨rfl, hb⟩
        have HB3 := hd hb
        clear hb
        go_wp2_with fail
        go_meet
        exact ⟨rfl, HB3⟩
    case rest =>
      obtain ⟨rfl, HB3⟩ := hcut
      have HO3 := hd (HO.o.bel HB3.o)
      have HR3 := hd (HROW.o.below HB3.o)
      have HBF := hd (HB.o.trans (HB3.o.mono HB.o.size))
      have y4 := HLA.o wc HO3.o
      clear HSP2 l4 HO HROW
      by_cases hpq : pn = q
      · have f1 : ((pn : Int) == (q : Int)) = true := by rw [hpq]; simp
        have HP : Hd (pageR l' tok most la 0 = (l', la, false)) := hd (by rw [HPR.o, HPP.o, if_pos hpq])
        clear hpq
        go_wp2_with fail
        go_quiet (fail)
        go_wp2
        (try simp only [Exit.inBlock, Exit.then]); refine bodyPost_ret (results_tmp4 rfl _ _ _) rfl ?_
        exact ⟨l', 0, A, c, by rw [HP.o]; show _ = Ending.returned (.tuple #[.slice A l'.length c, _, _, _]); rw [HQ.o]; rfl, HSI.o, by rw [HP.o]; show Rds _ A l'.length 4 (itsEnc l'); rw [HQ.o]; exact (HR3.o.drewN _).rds, HO3.o.drewN _, bdrewN HBF.o _⟩
      · have f1 : ((pn : Int) == (q : Int)) = false := by simp; omega
        have hp1 : 1 ≤ pn := by have := HPN.o; omega
        obtain ⟨p, rfl⟩ : ∃ p, pn = p + 1 := ⟨pn - 1, by omega⟩
        have hpl : p + 1 < q := by have := HPN.o; omega
        have HPL := hd hpl
        have hpll : p < l'.length := by rw [HQ.o]; omega
        obtain ⟨g, rfl, _, _, hqc, _, hcl, _⟩ := HR3.o.at_ (by omega)
        obtain ⟨v, hv⟩ : ∃ v, (l'[p]'hpll).ver = v := ⟨_, rfl⟩
        have k1 := hcl (p * 4 + 1) _ ((flat_at itEnc 4 itEnc_len l' p hpll 1 (by omega)).trans (by simp [itEnc]; rfl))
        rw [hv] at k1
        have HP : Hd (pageR l' tok most la 0 = (l'.take (p + 1), v, true)) := hd (by
          rw [HPR.o, HPP.o, if_neg hpq]
          simp only [Nat.add_sub_cancel]
          rw [List.getD_eq_getElem?_getD, List.getElem?_eq_getElem hpll, Option.getD_some, hv])
        have hpi : (p : Int) < (q : Int) := by omega
        have hpc : (p : Int) + 1 ≤ (c : Int) := by omega
        have hp0 : (0 : Int) ≤ (p : Int) + 1 := by omega
        have HLT : Hd ((l'.take (p + 1)).length = p + 1) := hd (by rw [List.length_take, HQ.o]; omega)
        clear hpq hcl hv hpll hp1 hpl
        go_wp2_with fail
        go_quiet (fail)
        go_wp2
        (try simp only [Exit.inBlock, Exit.then]); refine bodyPost_ret (results_tmp4 rfl _ _ _) rfl ?_
        exact ⟨l', 0, _, p + 1, by rw [HP.o]; show _ = Ending.returned (.tuple #[.slice _ (l'.take (p + 1)).length _, _, _, _]); rw [HLT.o]; rfl, HSI.o, by rw [HP.o]; exact (HR3.o.drewN _).rds.takeN (p + 1) (by have := HPL.o; omega), HO3.o.drewN _, bdrewN HBF.o _⟩
  · have hen : (err != 0) = true := by simpa using he
    have hpr : pageR l' tok most la err = ([], 0, false) := by unfold pageR; rw [if_neg he]
    have HPR := hd hpr
    clear he hpr
    go_wp2
    (try simp only [Exit.inBlock, Exit.then]); refine bodyPost_ret (results_tmp4 rfl _ _ _) rfl ?_
    refine ⟨l', err, none, 0, by rw [HPR.o]; rfl, HSI.o, by rw [HPR.o]; exact (Row.nil w2 (fun _ => True) 41 4).rds, HO.o, HB.o⟩


end Go.Proofs.Ytbeckfnhgeclnaa
/-
  Conditions: May, Holds, both sides.
-/
namespace Go.Proofs.Ytbeckfnhgeclnaa
open Go.RowKit Go.Lib

def mayP (ck cv : Int) : Bool := if ck = 0 ∨ ck = 1 ∨ ck = 2 then cv == 0 else if ck = 3 then decide (1 ≤ cv) else false
def holdsP (ck cv : Int) (th : Bool) (v : Int) : Bool := mayP ck cv && (if ck = 1 then !th else if ck = 2 then th else if ck = 3 then th && (v == cv) else true)

set_option maxHeartbeats 1000000 in
theorem may_calls (w : World) (ck cv : Int) : Calls Try.prog 97 #[.agg #[.int .i64 ck, .int .i64 cv]] w fun e w' => e = .returned (.bool (mayP ck cv)) ∧ Below w.heap.size w w' := by
  have HV : Hd (∃ b, b = mayP ck cv) := hd ⟨_, rfl⟩
  have hb := hd ((Below.refl w.heap.size w).alloc (Nat.le_refl _) (.cells #[.int .i64 ck, .int .i64 cv] 63))
  by_cases c0 : ck = 0
  · subst c0
    go_enter Try.func97, Try.ntmps97
    go_wp2
    go_ret
    exact ⟨rfl, hb.o⟩
  · by_cases c1 : ck = 1
    · subst c1
      go_enter Try.func97, Try.ntmps97
      go_wp2
      go_ret
      exact ⟨rfl, hb.o⟩
    · by_cases c2 : ck = 2
      · subst c2
        go_enter Try.func97, Try.ntmps97
        go_wp2
        go_ret
        exact ⟨rfl, hb.o⟩
      · by_cases c3 : ck = 3
        · subst c3
          go_enter Try.func97, Try.ntmps97
          go_wp2
          go_ret
          exact ⟨rfl, hb.o⟩
        · have e0 : (ck == 0) = false := by simpa using c0
          have e1 : (ck == 1) = false := by simpa using c1
          have e2 : (ck == 2) = false := by simpa using c2
          have e3 : (ck == 3) = false := by simpa using c3
          have HF : Hd (mayP ck cv = false) := hd (by simp [mayP, c0, c1, c2, c3])
          clear c0 c1 c2 c3
          go_enter Try.func97, Try.ntmps97
          go_wp2
          go_ret
          exact ⟨ret_bool HF.o.symm, hb.o⟩

set_option maxHeartbeats 1000000 in
theorem holds_calls (w : World) (ck cv : Int) (th : Bool) (v : Int) : Calls Try.prog 81 #[.agg #[.int .i64 ck, .int .i64 cv], .bool th, .int .i64 v] w fun e w' => e = .returned (.bool (holdsP ck cv th v)) ∧ Below w.heap.size w w' := by
  have hb := hd ((Below.refl w.heap.size w).alloc (Nat.le_refl _) (.cells #[.int .i64 ck, .int .i64 cv] 63))
  have HM := hd (may_calls (w.alloc (.cells #[.int .i64 ck, .int .i64 cv] 63)) ck cv)
  have HB := hd (Blk.new w 63 #[.int .i64 ck, .int .i64 cv])
  obtain ⟨res, hres⟩ : ∃ r, holdsP ck cv th v = r := ⟨_, rfl⟩
  rw [hres]
  have HR := hd hres
  simp only [holdsP] at hres
  cases hm : mayP ck cv with
  | false =>
    rw [hm] at HM
    have HF : Hd (res = false) := hd (by rw [← hres, hm]; rfl)
    clear hres hm
    go_enter Try.func81, Try.ntmps81
    go_wp2_with fail
    refine HM.o.mono ?_
    rintro e w2 ⟨rfl, hb2⟩
    have HB2 := hd (hb.o.trans (hb2.mono (by simp)))
    clear hb2
    go_wp2
    go_ret
    exact ⟨ret_bool HF.o.symm, HB2.o⟩
  | true =>
    rw [hm] at HM
    rw [hm, Bool.true_and] at hres
    have HF := hd hres
    clear hres hm
    go_enter Try.func81, Try.ntmps81
    go_wp2_with fail
    refine HM.o.mono ?_
    rintro e w2 ⟨rfl, hb2⟩
    have hx := HB.o.below hb2 (by simp)
    have x0 := hx.at_ 0 rfl
    have x1 := hx.at_ 1 rfl
    have HB2 := hd (hb.o.trans (hb2.mono (by simp)))
    clear hb2 hx
    by_cases c1 : ck = 1
    · subst c1
      have HF2 : Hd (res = !th) := hd (by rw [← HF.o]; rfl)
      go_wp2
      go_ret
      exact ⟨ret_bool HF2.o.symm, HB2.o⟩
    · have e1 : (ck == 1) = false := by simpa using c1
      by_cases c2 : ck = 2
      · subst c2
        have HF2 : Hd (res = th) := hd (by rw [← HF.o]; rfl)
        go_wp2
        go_ret
        exact ⟨ret_bool HF2.o.symm, HB2.o⟩
      · have e2 : (ck == 2) = false := by simpa using c2
        by_cases c3 : ck = 3
        · subst c3
          have HF2 : Hd (res = (th && (v == cv))) := hd (by rw [← HF.o]; rfl)
          cases th with
          | true =>
            go_wp2
            go_ret
            exact ⟨ret_bool HF2.o.symm, HB2.o⟩
          | false =>
            go_wp2
            go_ret
            exact ⟨ret_bool HF2.o.symm, HB2.o⟩
        · have e3 : (ck == 3) = false := by simpa using c3
          have HF2 : Hd (res = true) := hd (by rw [← HF.o]; simp [c1, c2, c3])
          clear c1 c2 c3
          go_wp2
          go_ret
          exact ⟨ret_bool HF2.o.symm, HB2.o⟩

set_option maxHeartbeats 1000000 in
theorem rmay_calls (w : World) (ck cv : Int) : Calls Try.prog 98 #[.agg #[.int .i64 ck, .int .i64 cv]] w fun e w' => e = .returned (.bool (mayP ck cv)) ∧ Below w.heap.size w w' := by
  have HV : Hd (∃ b, b = mayP ck cv) := hd ⟨_, rfl⟩
  have hb := hd ((Below.refl w.heap.size w).alloc (Nat.le_refl _) (.cells #[.int .i64 ck, .int .i64 cv] 63))
  by_cases c0 : ck = 0
  · subst c0
    go_enter Try.func98, Try.ntmps98
    go_wp2
    go_ret
    exact ⟨rfl, hb.o⟩
  · by_cases c1 : ck = 1
    · subst c1
      go_enter Try.func98, Try.ntmps98
      go_wp2
      go_ret
      exact ⟨rfl, hb.o⟩
    · by_cases c2 : ck = 2
      · subst c2
        go_enter Try.func98, Try.ntmps98
        go_wp2
        go_ret
        exact ⟨rfl, hb.o⟩
      · by_cases c3 : ck = 3
        · subst c3
          go_enter Try.func98, Try.ntmps98
          go_wp2
          go_ret
          exact ⟨rfl, hb.o⟩
        · have e0 : (ck == 0) = false := by simpa using c0
          have e1 : (ck == 1) = false := by simpa using c1
          have e2 : (ck == 2) = false := by simpa using c2
          have e3 : (ck == 3) = false := by simpa using c3
          have HF : Hd (mayP ck cv = false) := hd (by simp [mayP, c0, c1, c2, c3])
          clear c0 c1 c2 c3
          go_enter Try.func98, Try.ntmps98
          go_wp2
          go_ret
          exact ⟨ret_bool HF.o.symm, hb.o⟩

set_option maxHeartbeats 1000000 in
theorem rholds_calls (w : World) (ck cv : Int) (th : Bool) (v : Int) : Calls Try.prog 82 #[.agg #[.int .i64 ck, .int .i64 cv], .bool th, .int .i64 v] w fun e w' => e = .returned (.bool (holdsP ck cv th v)) ∧ Below w.heap.size w w' := by
  have hb := hd ((Below.refl w.heap.size w).alloc (Nat.le_refl _) (.cells #[.int .i64 ck, .int .i64 cv] 63))
  have HM := hd (rmay_calls (w.alloc (.cells #[.int .i64 ck, .int .i64 cv] 63)) ck cv)
  have HB := hd (Blk.new w 63 #[.int .i64 ck, .int .i64 cv])
  obtain ⟨res, hres⟩ : ∃ r, holdsP ck cv th v = r := ⟨_, rfl⟩
  rw [hres]
  have HR := hd hres
  simp only [holdsP] at hres
  cases hm : mayP ck cv with
  | false =>
    rw [hm] at HM
    have HF : Hd (res = false) := hd (by rw [← hres, hm]; rfl)
    clear hres hm
    go_enter Try.func82, Try.ntmps82
    go_wp2_with fail
    refine HM.o.mono ?_
    rintro e w2 ⟨rfl, hb2⟩
    have HB2 := hd (hb.o.trans (hb2.mono (by simp)))
    clear hb2
    go_wp2
    go_ret
    exact ⟨ret_bool HF.o.symm, HB2.o⟩
  | true =>
    rw [hm] at HM
    rw [hm, Bool.true_and] at hres
    have HF := hd hres
    clear hres hm
    go_enter Try.func82, Try.ntmps82
    go_wp2_with fail
    refine HM.o.mono ?_
    rintro e w2 ⟨rfl, hb2⟩
    have hx := HB.o.below hb2 (by simp)
    have x0 := hx.at_ 0 rfl
    have x1 := hx.at_ 1 rfl
    have HB2 := hd (hb.o.trans (hb2.mono (by simp)))
    clear hb2 hx
    by_cases c1 : ck = 1
    · subst c1
      have HF2 : Hd (res = !th) := hd (by rw [← HF.o]; rfl)
      go_wp2
      go_ret
      exact ⟨ret_bool HF2.o.symm, HB2.o⟩
    · have e1 : (ck == 1) = false := by simpa using c1
      by_cases c2 : ck = 2
      · subst c2
        have HF2 : Hd (res = th) := hd (by rw [← HF.o]; rfl)
        go_wp2
        go_ret
        exact ⟨ret_bool HF2.o.symm, HB2.o⟩
      · have e2 : (ck == 2) = false := by simpa using c2
        by_cases c3 : ck = 3
        · subst c3
          have HF2 : Hd (res = (th && (v == cv))) := hd (by rw [← HF.o]; rfl)
          cases th with
          | true =>
            go_wp2
            go_ret
            exact ⟨ret_bool HF2.o.symm, HB2.o⟩
          | false =>
            go_wp2
            go_ret
            exact ⟨ret_bool HF2.o.symm, HB2.o⟩
        · have e3 : (ck == 3) = false := by simpa using c3
          have HF2 : Hd (res = true) := hd (by rw [← HF.o]; simp [c1, c2, c3])
          clear c1 c2 c3
          go_wp2
          go_ret
          exact ⟨ret_bool HF2.o.symm, HB2.o⟩

end Go.Proofs.Ytbeckfnhgeclnaa
/-
  What a check says, plainly.
-/
namespace Go.Proofs.Ytbeckfnhgeclnaa
open Go.RowKit Go.Lib

def uidIn (l : List OpV) (u : List UInt8) : Bool := l.any fun x => decide (x.uid = u)
theorem uidIn_snoc (l : List OpV) (x : OpV) (u : List UInt8) : uidIn (l ++ [x]) u = (uidIn l u || decide (x.uid = u)) := by simp [uidIn]

/-- One write looked at: what is wrong, or how many and how much then. -/
def chkO (s : Cs) (room : Int) (pre : List OpV) (o : OpV) (m g : Int) : Int ⊕ (Int × Int) :=
  if uidIn pre o.uid = true then .inl 11
  else if holdsP o.ck o.cv (hasM s.ml o.uid) (verM s.ml o.uid) = false then .inl 6
  else if o.del = true ∧ hasM s.ml o.uid = false then .inl 4
  else
    let m' := (if hasM s.ml o.uid = true then m - 1 else m) + (if o.del = true then 0 else 1)
    let g' := (if hasM s.ml o.uid = true then g - ((txtM s.ml o.uid).length : Int) else g) + (if o.del = true then 0 else (o.card.length : Int))
    if s.most < m' ∨ room < g' then .inl 7 else .inr (m', g')
def chkG (s : Cs) (room : Int) : List OpV → List OpV → Int → Int → Int × Int × Int
  | _, [], _, g => (0, g, 0)
  | pre, o :: r, m, g =>
    match chkO s room pre o m g with
    | .inl e => ((pre.length : Int), 0, e)
    | .inr p => chkG s room (pre ++ [o]) r p.1 p.2
theorem chkG_err {s : Cs} {room : Int} {l : List OpV} {k : Nat} {m g e : Int} (h : k < l.length) (hc : chkO s room (l.take k) l[k] m g = .inl e) : chkG s room (l.take k) (l.drop k) m g = ((k : Int), 0, e) := by
  rw [List.drop_eq_getElem_cons h, chkG, hc]
  simp only [List.length_take]
  rw [Nat.min_eq_left (Nat.le_of_lt h)]
theorem chkG_ok {s : Cs} {room : Int} {l : List OpV} {k : Nat} {m g : Int} {p : Int × Int} (h : k < l.length) (hc : chkO s room (l.take k) l[k] m g = .inr p) : chkG s room (l.take k) (l.drop k) m g = chkG s room (l.take (k + 1)) (l.drop (k + 1)) p.1 p.2 := by
  rw [List.drop_eq_getElem_cons h, chkG, hc, List.take_succ_eq_append_getElem h]

end Go.Proofs.Ytbeckfnhgeclnaa
/-
  Check's parts: ContainsFunc, IndexFunc at writes; few writes; what a check says.
-/
namespace Go.Proofs.Ytbeckfnhgeclnaa
open Go.RowKit Go.Lib

theorem opEnc_len' (x : OpV) : (opEnc x).length = 5 := rfl
theorem opsE_at (l : List OpV) (i : Nat) (h : i < l.length) (j : Nat) (hj : j < 5) : (opsE l)[i * 5 + j]? = (opEnc l[i])[j]? := flat_at opEnc 5 opEnc_len' l i h j hj

theorem chk1_calls (w : World) (x : OpV) (b : Nat) (u : List UInt8) (hb : w.cell? ⟨b, 1, none⟩ = some (.string (bs u))) (hl : b < w.heap.size) :
    Calls Try.prog 80 #[.agg (opEnc x).toArray, .pointer (some ⟨b, 0, none⟩)] w fun e w' => e = .returned (.bool (decide (x.uid = u))) ∧ w.alloc (.cells (opEnc x).toArray 65) = w' := by
  obtain ⟨xd, xu, xc, xk, xv⟩ := x
  simp only [opEnc]
  have heq := rstr_eq xu u
  go_enter Try.func80, Try.ntmps80
  go_wp2
  go_ret
  exact ⟨rfl, rfl⟩

set_option maxRecDepth 100000 in
set_option maxHeartbeats 2000000 in
theorem ifO_calls (w : World) (A : Option Addr) (n c : Nat) (l : List OpV) (b : Nat) (v : List UInt8) (hr : Rds w A n 5 (opsE l)) (hn : n = l.length) (hm : n ≤ 1000000) (hb : w.cell? ⟨b, 1, none⟩ = some (.string (bs v))) (hl : b < w.heap.size) :
    Calls Try.prog 96 #[.slice A n c, .func (.func 80) #[] #[.pointer (some ⟨b, 0, none⟩)]] w fun e w' => ∃ i : Int, e = .returned (.int .i64 i) ∧ decide (0 ≤ i) = uidIn l v ∧ Below w.heap.size w w' := by
  have HR := hd hr
  have HN := hd hn
  have HC := hd (fun wr (hbe : Below w.heap.size w wr) (x : OpV) => chk1_calls wr x b v ((hbe.cell (p := ⟨b, 1, none⟩) hl).trans hb) (Nat.lt_of_lt_of_le hl hbe.size))
  clear hr hn hb
  go_enter Try.func96, Try.ntmps96
  go_wp2_with fail
  go_loopw [8, 5] (fun s8 s5 wr => ∃ k : Nat, s8 = .int .i64 k ∧ k ≤ n ∧ Hd (uidIn (l.take k) v = false) ∧ Hd (Below w.heap.size w wr)) (fun s8 _ _ => n - (intOf s8).toNat)
  case atStart => exact ⟨0, rfl, Nat.zero_le _, hd rfl, hd (Below.refl _ _)⟩
  case round =>
    obtain ⟨k, rfl, hk, HV, HB⟩ := hrel
    have hki : (0 : Int) ≤ (k : Int) := by omega
    by_cases hlt : k < n
    · have hlti : (k : Int) < (n : Int) := by omega
      have hkl : k < l.length := by rw [← HN.o]; exact hlt
      obtain ⟨g, o, rfl, hg, hc⟩ := HR.o.at_ (by omega)
      obtain ⟨x, hx⟩ : ∃ x, l[k]'hkl = x := ⟨_, rfl⟩
      have HT : Hd (l.take (k + 1) = l.take k ++ [x]) := hd (by rw [List.take_succ_eq_append_getElem hkl, hx])
      have HMEM : Hd (x ∈ l) := hd (by rw [← hx]; exact List.getElem_mem hkl)
      have hcell : ∀ j u, j < 5 → (opEnc x)[j]? = some u → wr.cell? ⟨g, o + (k * 5 + j), none⟩ = some u := fun j u hj hv => (HB.o.cell (p := ⟨g, o + (k * 5 + j), none⟩) hg).trans (hc _ _ ((opsE_at l k hkl j hj).trans (by rw [hx]; exact hv)))
      have hcall := hd (HC.o wr HB.o x)
      obtain ⟨xd, xu, xc, xk, xv⟩ := x
      have k0 := hcell 0 _ (by omega) rfl
      have k1 := hcell 1 _ (by omega) rfl
      have k2 := hcell 2 _ (by omega) rfl
      have k3 := hcell 3 _ (by omega) rfl
      have k4 := hcell 4 _ (by omega) rfl
      rw [← Nat.add_assoc] at k0 k1 k2 k3 k4
      rw [Nat.add_zero] at k0
      simp only [opEnc] at hcall
      obtain ⟨bq, hbq⟩ : ∃ q : Bool, decide (xu = v) = q := ⟨_, rfl⟩
      rw [hbq] at hcall
      have HBQ := hd hbq
      clear hcell hc hx hkl hbq
      go_wp2_with fail
      refine hcall.o.mono ?_
      rintro e w1 ⟨rfl, rfl⟩
      have HB1 := hd (HB.o.alloc HB.o.size (.cells #[.bool xd, .string (bs xu), .string (bs xc), .int .i64 xk, .int .i64 xv] 65))
      cases bq with
      | true =>
        go_wp2
        go_ret
        refine ⟨(k : Int), rfl, ?_, HB1.o⟩
        rw [decide_eq_true hki]
        symm
        simp only [uidIn, List.any_eq_true]
        exact ⟨_, HMEM.o, HBQ.o⟩
      | false =>
        have HV2 : Hd (uidIn (l.take (k + 1)) v = false) := hd (by rw [HT.o, uidIn_snoc, HV.o]; simpa using HBQ.o)
        go_wp2
        go_roundw
        case rel => exact ⟨k + 1, by go_num, by omega, HV2, HB1⟩
        case measure => simp [intOf]; omega
    · obtain rfl : k = n := by omega
      have HE : Hd (l.take k = l) := hd (List.take_of_length_le (by rw [← HN.o]; exact Nat.le_refl _))
      go_wp2
      go_ret
      refine ⟨-1, rfl, ?_, HB.o⟩
      have := HV.o
      rw [HE.o] at this
      rw [this]
      rfl
theorem cfO_calls (w : World) (A : Option Addr) (n c : Nat) (l : List OpV) (b : Nat) (v : List UInt8) (hr : Rds w A n 5 (opsE l)) (hn : n = l.length) (hm : n ≤ 1000000) (hb : w.cell? ⟨b, 1, none⟩ = some (.string (bs v))) (hl : b < w.heap.size) :
    Calls Try.prog 79 #[.slice A n c, .func (.func 80) #[] #[.pointer (some ⟨b, 0, none⟩)]] w fun e w' => e = .returned (.bool (uidIn l v)) ∧ Below w.heap.size w w' := by
  have hc := hd (ifO_calls w A n c l b v hr hn hm hb hl)
  clear hr hn hb
  go_enter Try.func79, Try.ntmps79
  go_wp2_with fail
  refine hc.o.mono ?_
  rintro e w1 ⟨i, rfl, hi, hb1⟩
  have HI := hd hi
  clear hi
  go_wp2
  go_ret
  exact ⟨ret_bool (by rw [← HI.o]), hb1⟩

/-- Few writes. -/
def fewP (l : List OpV) : Bool := !(decide (20 < l.length)) && l.all fun x => !(decide (60 < x.uid.length) || decide (1000 < x.card.length))
theorem fewP_len {l : List OpV} (h : fewP l = true) : l.length ≤ 20 := by
  unfold fewP at h
  simp only [Bool.and_eq_true, Bool.not_eq_true', decide_eq_false_iff_not] at h
  omega
theorem fewP_each {l : List OpV} (h : fewP l = true) : ∀ x ∈ l, x.uid.length ≤ 60 ∧ x.card.length ≤ 1000 := by
  intro x hx
  unfold fewP at h
  simp only [Bool.and_eq_true] at h
  have := List.all_eq_true.1 h.2 x hx
  simp only [Bool.not_eq_true', Bool.or_eq_false_iff, decide_eq_false_iff_not] at this
  omega

set_option maxHeartbeats 1000000 in
theorem few_calls (w : World) (A : Option Addr) (n c : Nat) (l : List OpV) (hr0 : Rds w A n 5 (opsE l)) (hn : n = l.length) (hm : n ≤ maxLen) (hok : ∀ x ∈ l, OpOk x) :
    Calls Try.prog 52 #[.slice A n c] w fun e w' => e = .returned (.bool (fewP l)) ∧ Below w.heap.size w w' := by
  obtain ⟨LB, hLB⟩ : ∃ LB, fewP l = LB := ⟨_, rfl⟩
  rw [hLB]
  simp only [fewP] at hLB
  rw [← hn] at hLB
  have HL := hd hLB
  have HN := hd hn.symm
  have HE := hd hok
  unfold maxLen at hm
  clear hLB hn hok
  by_cases c2 : 20 < n
  · have f2 : decide ((20 : Int) < (n : Int)) = true := by simp; omega
    have HR : Hd (LB = false) := hd (by rw [← HL.o]; simp [c2])
    clear c2
    go_enter Try.func52, Try.ntmps52
    go_wp2
    go_ret
    exact ⟨ret_bool HR.o.symm, Below.refl _ w⟩
  · have f2 : decide ((20 : Int) < (n : Int)) = false := by simp; omega
    have HR : Hd (LB = l.all fun x => !(decide (60 < x.uid.length) || decide (1000 < x.card.length))) := hd (by rw [← HL.o]; simp [c2])
    go_enter Try.func52, Try.ntmps52
    go_wp2_with fail
    go_loop [3] (fun i => ∃ k : Nat, i = .int .i64 k ∧ k ≤ n ∧ Hd (∀ j (h : j < l.length), j < k → (!(decide (60 < l[j].uid.length) || decide (1000 < l[j].card.length))) = true)) (fun i => n - (intOf i).toNat)
    case atStart => exact ⟨0, rfl, Nat.zero_le _, hd (fun j _ h => absurd h (Nat.not_lt_zero _))⟩
    case round =>
      obtain ⟨k, rfl, hk, hall⟩ := hrel
      have hki : (0 : Int) ≤ (k : Int) := by omega
      by_cases hlt : k < n
      · have hlti : (k : Int) < (n : Int) := by omega
        have hkl : k < l.length := by rw [HN.o]; exact hlt
        obtain ⟨g, o, rfl, hg, hc⟩ := hr0.at_ (by omega)
        obtain ⟨x, hx⟩ : ∃ x, l[k]'hkl = x := ⟨_, rfl⟩
        have HX := hd hx
        have hes := HE.o x (by rw [← hx]; exact List.getElem_mem hkl)
        have hcell : ∀ j u, j < 5 → (opEnc x)[j]? = some u → w.cell? ⟨g, o + (k * 5 + j), none⟩ = some u := fun j u hj hv => hc _ _ ((opsE_at l k hkl j hj).trans (by rw [hx]; exact hv))
        obtain ⟨del, uid, text, ck, cv⟩ := x
        have k0 := hcell 1 _ (by omega) rfl
        have k3 := hcell 2 _ (by omega) rfl
        rw [← Nat.add_assoc] at k0 k3
        obtain ⟨uz, huz⟩ : ∃ uz, uid.length = uz := ⟨_, rfl⟩
        obtain ⟨tz, htz⟩ : ∃ tz, text.length = tz := ⟨_, rfl⟩
        simp only [OpOk, huz, htz] at hes
        unfold maxLen at hes
        have hsu : (bs uid).size = uz := by rw [bs_sz, huz]
        have hst : (bs text).size = tz := by rw [bs_sz, htz]
        have HBAD : Hd ((60 < uz ∨ 1000 < tz) → LB = false) := hd (fun hh => by
          rw [HR.o, Bool.eq_false_iff]
          intro ha
          have := List.all_eq_true.1 ha _ (List.getElem_mem hkl)
          rw [HX.o] at this
          simp only [huz, htz] at this
          rcases hh with h | h <;> simp [h] at this)
        have HG : Hd (¬ 60 < uz → ¬ 1000 < tz → ∀ j (h : j < l.length), j < k + 1 → (!(decide (60 < l[j].uid.length) || decide (1000 < l[j].card.length))) = true) := hd (fun h1 h2 j hj hjk => by
          by_cases hjj : j < k
          · exact hall.o j hj hjj
          · obtain rfl : j = k := by omega
            rw [HX.o]
            simp only [huz, htz]
            simp [h1, h2])
        clear hcell hc hx hr0 huz htz
        by_cases v1 : 60 < uz
        · have g1 : decide ((60 : Int) < (uz : Int)) = true := by simp; omega
          have HH := hd (HBAD.o (.inl v1))
          clear v1
          go_wp2
          go_ret
          exact ⟨ret_bool HH.o.symm, Below.refl _ _⟩
        · have g1 : decide ((60 : Int) < (uz : Int)) = false := by simp; omega
          by_cases v2 : 1000 < tz
          · have g2 : decide ((1000 : Int) < (tz : Int)) = true := by simp; omega
            have HH := hd (HBAD.o (.inr v2))
            clear v1 v2
            go_wp2
            go_ret
            exact ⟨ret_bool HH.o.symm, Below.refl _ _⟩
          · have g2 : decide ((1000 : Int) < (tz : Int)) = false := by simp; omega
            have HH := hd (HG.o v1 v2)
            clear v1 v2
            go_wp2
            go_round
            case rel => exact ⟨k + 1, by go_num, by omega, HH⟩
            case measure => simp [intOf]; omega
      · obtain rfl : k = n := by omega
        have HH : Hd (LB = true) := hd (by
          rw [HR.o, List.all_eq_true]
          intro x hx
          obtain ⟨j, hj, rfl⟩ := List.getElem_of_mem hx
          exact hall.o j hj (by rw [← HN.o]; exact hj))
        go_wp2
        go_ret
        exact ⟨ret_bool HH.o.symm, Below.refl _ _⟩

end Go.Proofs.Ytbeckfnhgeclnaa
/-
  ColFolds, as a call: it returns true, whatever the writes.
-/
namespace Go.Proofs.Ytbeckfnhgeclnaa
open Go.RowKit Go.Lib

/-- Behind k writes whose tokens rise one by one. -/
structure RunC (s : Cs) (t : Int) (k : Nat) : Prop where
  good : s.Good
  tok : s.Tok
  pos : s.Pos
  le : s.latest ≤ t
  ml : s.ml.length ≤ k
  log : s.log.length ≤ k
  bytes : bytesM s.ml ≤ 1000 * (k : Int)
theorem run_new (birth cards log : Int) (h : 1 ≤ birth) : RunC (Cs.new birth cards log) birth 0 :=
  ⟨made_good birth cards log [], Cs.new_tok _ _ _, ⟨fun e he => (by cases he), h⟩, Int.le_refl _, Nat.le_refl _, Nat.le_refl _, by simp [Cs.new, bytesM]⟩
theorem RunC.step {s : Cs} {t : Int} {k : Nat} (h : RunC s t k) (ht : 0 ≤ t) (o : OpV) (ho : o.card.length ≤ 1000) : RunC (s.step o (t + 1)).2 (t + 1) (k + 1) := by
  have hz := Cs.step_sizes h.good.ok o (t + 1)
  have h1 := h.ml
  have h2 := h.log
  have h3 := h.bytes
  have h4 := h.le
  exact ⟨⟨Cs.step_ok h.good.ok o _, Cs.step_ver h.good.ver h.good.ok o _⟩, Cs.step_tok h.tok o _, Cs.step_pos h.pos h.good.ok o (by omega), (Cs.step_latest o (by omega)).2, by omega, by omega, by omega⟩

/-- A collection, and items gathered apart from it. -/
structure FoldC (w wr : World) (b : Nat) (s : Cs) (A : Option Addr) (c : Nat) (L : List It) : Prop where
  ex : ∃ S T : Nat → Prop, ColR wr S b s ∧ Row wr T 41 4 A L.length c (itsEnc L) ∧ (∀ q, S q → ¬ T q) ∧ (∀ q, S q → w.heap.size ≤ q ∧ q < wr.heap.size) ∧ (∀ q, T q → w.heap.size ≤ q ∧ q < wr.heap.size)
  below : Below w.heap.size w wr
  ok : s.Ok
  uid : ∀ x ∈ s.log, x.2.length ≤ maxLen
theorem FoldC.bel {w wr w' : World} {b : Nat} {s : Cs} {A : Option Addr} {c : Nat} {L : List It} (h : FoldC w wr b s A c L) (hb : Below wr.heap.size wr w') : FoldC w w' b s A c L := by
  obtain ⟨⟨S, T, h1, h2, h3, h4, h5⟩, h6, h7, h8⟩ := h
  have hs := hb.size
  exact ⟨⟨S, T, h1.below hb, h2.below hb, h3, fun q hq => ⟨(h4 q hq).1, by have := (h4 q hq).2; omega⟩, fun q hq => ⟨(h5 q hq).1, by have := (h5 q hq).2; omega⟩⟩, h6.trans (hb.mono h6.size), h7, h8⟩
theorem FoldC.own {w wr : World} {b : Nat} {s : Cs} {A : Option Addr} {c : Nat} {L : List It} (h : FoldC w wr b s A c L) : OwnC wr.heap.size w wr b s := by
  obtain ⟨⟨S, T, h1, h2, h3, h4, h5⟩, h6, h7, h8⟩ := h
  exact ⟨⟨S, h1, h4⟩, h6, Nat.le_refl _, h7, h8⟩
theorem FoldC.rds {w wr : World} {b : Nat} {s : Cs} {A : Option Addr} {c : Nat} {L : List It} (h : FoldC w wr b s A c L) : Rds wr A L.length 4 (itsEnc L) := by
  obtain ⟨⟨S, T, h1, h2, _⟩, _⟩ := h
  exact h2.rds
theorem foldc_start {B : Nat} {w wr : World} {b : Nat} {s : Cs} (h : OwnC B w wr b s) : FoldC w wr b s none 0 [] := by
  obtain ⟨⟨S, h1, h2⟩, h3, h4, h5, h6⟩ := h
  exact ⟨⟨S, Non, h1, Row.nil _ _ _ _, fun _ _ h => h, fun q hq => ⟨(h2 q hq).1, by have := (h2 q hq).2; omega⟩, fun q hq => hq.elim⟩, h3, h5, h6⟩
theorem foldc_apply {w wr : World} {b : Nat} {s : Cs} {A : Option Addr} {c : Nat} {L : List It} (h : FoldC w wr b s A c L) (o : OpV) (t : Int) (hl : s.ml.length < 1000000) (hlg : s.log.length < 1000000) (hby : bytesM s.ml ≤ 1000000000000) (hcl : o.card.length ≤ 1000000000000) (hu : o.uid.length ≤ maxLen) :
    Calls Try.prog 44 #[.pointer (some ⟨b, 0, none⟩), .agg (opEnc o).toArray, .int .i64 t] wr fun e w' => e = .returned (.bool (s.step o t).1) ∧ FoldC w w' b (s.step o t).2 A c L := by
  obtain ⟨⟨S, T, h1, h2, h3, h4, h5⟩, h6, h7, h8⟩ := h
  refine (apply_calls wr S b s o t h1 h7 (fun q hq => (h4 q hq).2) hl hlg hby hcl).mono fun e w' ⟨he, hrep, hc⟩ => ⟨he, ⟨_, T, hrep.shrink, h2.chg hc (fun q hq hs => h3 q hs hq), fun q hq ht => ?_, fun q hq => ?_, fun q hq => ?_⟩, ?_, Cs.step_ok h7 o t, step_uid h8 hu⟩
  · obtain ⟨hq | hq, hq2⟩ := hq
    · exact h3 q hq ht
    · have := h5 q ht; have : wr.heap.size ≤ q := hq; omega
  · obtain ⟨hq | hq, hq2⟩ := hq
    · exact ⟨(h4 q hq).1, hq2⟩
    · exact ⟨Nat.le_trans h6.size hq, hq2⟩
  · have := h5 q hq; have := hc.size; exact ⟨by omega, by omega⟩
  · exact h6.trans (hc.below (fun q hq => (h4 q hq).1) h6.size)
theorem foldc_fold {w wr : World} {b : Nat} {s : Cs} {A : Option Addr} {c : Nat} {L : List It} (h : FoldC w wr b s A c L) (x : It) (hL : L.length ≤ 1000000) :
    Calls Try.prog 53 #[.slice A L.length c, .agg (itEnc x).toArray] wr fun e w' => ∃ A' c', e = .returned (.slice A' (foldL L x).length c') ∧ FoldC w w' b s A' c' (foldL L x) ∧ Below wr.heap.size wr w' := by
  have hb0 := h.below
  obtain ⟨⟨S, T, h1, h2, h3, h4, h5⟩, h6, h7, h8⟩ := h
  refine (kfold_calls wr A L.length c L x h2.rds rfl hL).mono fun e w' ⟨A', c', he, hr, hb⟩ => ⟨A', c', he, ⟨⟨S, Of A', h1.below hb, hr.own_, fun q hq ht => ?_, fun q hq => ?_, fun q hq => ?_⟩, h6.trans (hb.mono h6.size), h7, h8⟩, hb⟩
  · have h9 : wr.heap.size ≤ q := hr.of_sub q ht
    have := (h4 q hq).2
    omega
  · have := h4 q hq; have := hb.size; exact ⟨by omega, by omega⟩
  · have h9 : wr.heap.size ≤ q := hr.of_sub q hq
    refine ⟨Nat.le_trans h6.size h9, ?_⟩
    cases A' with
    | none => exact (Of.none hq).elim
    | some a => rw [hq.some_]; exact hr.lt rfl

/-- What is gathered, as a map. -/
structure Have (H : ML It) (L : List It) : Prop where
  rise : Rising H
  cards : Cards H
  is : L = H.map (·.2)
theorem Have.nil : Have [] [] := ⟨List.Pairwise.nil, fun _ h => (by cases h), rfl⟩
theorem Have.fold {H : ML It} {L : List It} (h : Have H L) (x : It) : Have (stepIt H x) (foldL L x) :=
  ⟨stepIt_rise h.rise x, stepIt_cards h.rise h.cards x, by rw [h.is, foldL_is h.rise h.cards]⟩
theorem since_zero_is {s : Cs} {l : List It} {err : Int} (h : SinceIs s 0 l err) : err = 0 ∧ SortedOf (liveL s.ml) l := by
  rcases h with ⟨_, a, b⟩ | ⟨a, _⟩ | ⟨a, _⟩
  · exact ⟨a, b⟩
  · exact absurd rfl a
  · exact absurd rfl a
theorem since_err {s : Cs} {t : Int} {l : List It} {err : Int} (h : SinceIs s t l err) (he : err ≠ 0) (hle : t ≤ s.latest) : err = 8 ∧ t < s.horizon := by
  rcases h with ⟨_, a, b⟩ | ⟨a, b, c, d⟩ | ⟨a, b, c, d⟩
  · exact absurd a he
  · refine ⟨c, ?_⟩
    unfold Cs.bad at b
    simp at b
    omega
  · exact absurd c he
theorem pageR_zero (l : List It) (most la : Int) : pageR l 0 most la 0 = (l, la, false) := by
  unfold pageR pageP pageN
  simp
theorem pageR_ok (l : List It) (t most la : Int) : pageR l t most la 0 = pageP l t most la := by
  unfold pageR
  rw [if_pos rfl]
/-- The pages go on, or are at their end. -/
theorem page_next {s : Cs} {t : Int} {k : Nat} (hr : RunC s t k) {nx : Int} (h0 : 1 ≤ nx) (hle : nx ≤ s.latest) {H : ML It} (hH : Rising H) (hc : CopyOf s H nx) {l : List It} (hs : SinceIs s nx l 0) (most : Int) :
    Paged s nx l (pageP l nx most s.latest).1 (pageP l nx most s.latest).2.1 (pageP l nx most s.latest).2.2 ∧ Upto s (foldIts H (pageP l nx most s.latest).1) (pageP l nx most s.latest).2.1 ∧
    ((pageP l nx most s.latest).2.2 = false → (foldIts H (pageP l nx most s.latest).1).map (·.2) = liveL s.ml) := by
  obtain ⟨hw, h1, h2⟩ := since_whole hr.good hr.tok hs (by omega) rfl
  have hp := page_whole hr.tok hw hle (by omega) most
  have hu := hc.resolve_left (by omega)
  exact ⟨hp, hp.fits H hH hu, fun hm => fits_live hr.good.ok.rise (foldIts_rise hH _) (hp.done hm H hH hu)⟩
theorem ownc_lat {B : Nat} {w wr : World} {b : Nat} {s : Cs} (h : OwnC B w wr b s) : Calls Try.prog 37 #[.pointer (some ⟨b, 0, none⟩)] wr fun e w' => e = .returned (.int .i64 s.latest) ∧ wr = w' := ownc_latest h

end Go.Proofs.Ytbeckfnhgeclnaa
/-
  Page of a law's own collection: where the items lie.
-/
namespace Go.Proofs.Ytbeckfnhgeclnaa
open Go.RowKit Go.Lib

set_option maxRecDepth 100000 in
set_option maxHeartbeats 4000000 in
theorem ownc_pageN {B : Nat} {w wr : World} {b1 : Nat} {s1 : Cs} (h : OwnC B w wr b1 s1) (tok most : Int) (hl : s1.ml.length ≤ 1000000) (hlg : s1.log.length ≤ 1000000) :
    Calls Try.prog 50 #[.pointer (some ⟨b1, 0, none⟩), .int .i64 tok, .int .i64 most] wr fun e w' => ∃ l' err A c, e = .returned (.tuple #[.slice A (pageR l' tok most s1.latest err).1.length c, .int .i64 (pageR l' tok most s1.latest err).2.1, .bool (pageR l' tok most s1.latest err).2.2, .int .i64 err]) ∧ SinceIs s1 tok l' err ∧ Rds w' A (pageR l' tok most s1.latest err).1.length 4 (itsEnc (pageR l' tok most s1.latest err).1) ∧ OwnC B w w' b1 s1 ∧ Below wr.heap.size wr w' ∧ (∀ q, Of A q → wr.heap.size ≤ q) := by
  have HS := hd (ownc_since1 h tok hl hlg)
  have HLA := hd (fun (w' : World) (h' : OwnC B w w' b1 s1) => (by
    obtain ⟨S, ⟨mb, rb, S1, S2, hb, _⟩, _⟩ := h'.ex
    exact hb.at_ 4 rfl : w'.cell? ⟨b1, 4, none⟩ = some (.int .i64 s1.latest)))
  generalize s1.latest = la at *
  clear h
  go_enter Try.func50, Try.ntmps50
  go_wp2_with fail
  refine HS.o.mono ?_
  rintro e w2 ⟨l', err, A, c, rfl, hs, hr, hO, hb⟩
  have HSI := hd hs
  have HROW := hd hr
  have HSUB : Hd (∀ q, Of A q → wr.heap.size ≤ q) := hd (fun q hq => hr.of_sub q hq)
  have HO := hd hO
  have HB := hd hb
  have hle := since_len hs
  have hcap := hr.cap
  clear hs hr hO hb HS
  by_cases he : err = 0
  · subst he
    have hpr : ∀ la, pageR l' tok most la 0 = pageP l' tok most la := fun la => by unfold pageR; rw [if_pos rfl]
    have HPR := hd hpr
    have HPN : Hd (pageN l' tok most ≤ l'.length ∧ (pageN l' tok most = l'.length ∨ 1 ≤ pageN l' tok most)) := hd (by
      unfold pageN
      split
      · exact ⟨Nat.le_refl _, .inl rfl⟩
      · exact ⟨splitP_le _ _, splitP_pos _ _⟩)
    have HSP := hd (csplit_calls w2 A l'.length c l' most HROW.o.rds rfl (by omega) hcap.1)
    have HPZ : Hd (tok = 0 → pageN l' tok most = l'.length) := hd (fun h => by unfold pageN; rw [if_pos h])
    have HPS : Hd (tok ≠ 0 → splitP l' most = pageN l' tok most) := hd (fun h => by unfold pageN; rw [if_neg h])
    have HPP : Hd (pageP l' tok most la = if pageN l' tok most = l'.length then (l', la, false) else (l'.take (pageN l' tok most), (l'.getD (pageN l' tok most - 1) default).ver, true)) := hd rfl
    obtain ⟨q, hq⟩ : ∃ q, l'.length = q := ⟨_, rfl⟩
    obtain ⟨pn, hpn⟩ : ∃ q, pageN l' tok most = q := ⟨_, rfl⟩
    have HQ := hd hq
    rw [hq] at HPN HSP HPZ HPP HROW hle hcap
    rw [hpn] at HPN HPZ HPS HPP
    simp only [hq]
    clear hq hpn hpr
    have l4 := HLA.o w2 HO.o
    have HSP2 : Hd (tok ≠ 0 → Calls Try.prog 48 #[.slice A q c, .int .i64 most] w2 fun e w' => e = .returned (.int .i64 (pn : Nat)) ∧ Below w2.heap.size w2 w') := hd (fun h => by rw [← HPS.o h]; exact HSP.o)
    clear HSP
    go_upto_if 23 with (fail)
    go_cut [10] from 23 to 26 (fun s10 wx => s10 = .int .i64 (pn : Nat) ∧ Hd (Below w2.heap.size w2 wx))
    case first =>
      by_cases ht : tok = 0
      · have f1 : (tok != 0) = false := by simpa using ht
        have hpq := HPZ.o ht
        clear ht
        subst hpq
        go_wp2_with fail
        go_meet
        exact ⟨rfl, hd (Below.refl _ _)⟩
      · have f1 : (tok != 0) = true := by simpa using ht
        have HC := hd (HSP2.o ht)
        clear ht
        go_wp2_with fail
        refine HC.o.mono ?_
        rintro e w3 ⟨rfl, hb⟩
        have HB3 := hd hb
        clear hb
        go_wp2_with fail
        go_meet
        exact ⟨rfl, HB3⟩
    case rest =>
      obtain ⟨rfl, HB3⟩ := hcut
      have HO3 := hd (HO.o.bel HB3.o)
      have HR3 := hd (HROW.o.below HB3.o)
      have HBF := hd (HB.o.trans (HB3.o.mono HB.o.size))
      have y4 := HLA.o wc HO3.o
      clear HSP2 l4 HO HROW
      by_cases hpq : pn = q
      · have f1 : ((pn : Int) == (q : Int)) = true := by rw [hpq]; simp
        have HP : Hd (pageR l' tok most la 0 = (l', la, false)) := hd (by rw [HPR.o, HPP.o, if_pos hpq])
        clear hpq
        go_wp2_with fail
        go_quiet (fail)
        go_wp2
        (try simp only [Exit.inBlock, Exit.then]); refine bodyPost_ret (results_tmp4 rfl _ _ _) rfl ?_
        exact ⟨l', 0, A, c, by rw [HP.o]; show _ = Ending.returned (.tuple #[.slice A l'.length c, _, _, _]); rw [HQ.o]; rfl, HSI.o, by rw [HP.o]; show Rds _ A l'.length 4 (itsEnc l'); rw [HQ.o]; exact (HR3.o.drewN _).rds, HO3.o.drewN _, bdrewN HBF.o _, HSUB.o⟩
      · have f1 : ((pn : Int) == (q : Int)) = false := by simp; omega
        have hp1 : 1 ≤ pn := by have := HPN.o; omega
        obtain ⟨p, rfl⟩ : ∃ p, pn = p + 1 := ⟨pn - 1, by omega⟩
        have hpl : p + 1 < q := by have := HPN.o; omega
        have HPL := hd hpl
        have hpll : p < l'.length := by rw [HQ.o]; omega
        obtain ⟨g, rfl, _, _, hqc, _, hcl, _⟩ := HR3.o.at_ (by omega)
        obtain ⟨v, hv⟩ : ∃ v, (l'[p]'hpll).ver = v := ⟨_, rfl⟩
        have k1 := hcl (p * 4 + 1) _ ((flat_at itEnc 4 itEnc_len l' p hpll 1 (by omega)).trans (by simp [itEnc]; rfl))
        rw [hv] at k1
        have HP : Hd (pageR l' tok most la 0 = (l'.take (p + 1), v, true)) := hd (by
          rw [HPR.o, HPP.o, if_neg hpq]
          simp only [Nat.add_sub_cancel]
          rw [List.getD_eq_getElem?_getD, List.getElem?_eq_getElem hpll, Option.getD_some, hv])
        have hpi : (p : Int) < (q : Int) := by omega
        have hpc : (p : Int) + 1 ≤ (c : Int) := by omega
        have hp0 : (0 : Int) ≤ (p : Int) + 1 := by omega
        have HLT : Hd ((l'.take (p + 1)).length = p + 1) := hd (by rw [List.length_take, HQ.o]; omega)
        clear hpq hcl hv hpll hp1 hpl
        go_wp2_with fail
        go_quiet (fail)
        go_wp2
        (try simp only [Exit.inBlock, Exit.then]); refine bodyPost_ret (results_tmp4 rfl _ _ _) rfl ?_
        exact ⟨l', 0, _, p + 1, by rw [HP.o]; show _ = Ending.returned (.tuple #[.slice _ (l'.take (p + 1)).length _, _, _, _]); rw [HLT.o]; rfl, HSI.o, by rw [HP.o]; exact (HR3.o.drewN _).rds.takeN (p + 1) (by have := HPL.o; omega), HO3.o.drewN _, bdrewN HBF.o _, HSUB.o⟩
  · have hen : (err != 0) = true := by simpa using he
    have hpr : pageR l' tok most la err = ([], 0, false) := by unfold pageR; rw [if_neg he]
    have HPR := hd hpr
    clear he hpr
    go_wp2
    (try simp only [Exit.inBlock, Exit.then]); refine bodyPost_ret (results_tmp4 rfl _ _ _) rfl ?_
    refine ⟨l', err, none, 0, by rw [HPR.o]; rfl, HSI.o, by rw [HPR.o]; exact (Row.nil w2 (fun _ => True) 41 4).rds, HO.o, HB.o, fun q hq => (Of.none hq).elim⟩


end Go.Proofs.Ytbeckfnhgeclnaa
/-
  How often each has come: plain.
-/
namespace Go.Proofs.Ytbeckfnhgeclnaa
open Go.RowKit Go.Maps

def cntU (l : List It) (s : List UInt8) : Nat := l.countP fun y => y.uid == s
theorem cntU_le (l : List It) (s : List UInt8) : cntU l s ≤ l.length := List.countP_le_length
theorem cntU_snoc (l : List It) (x : It) (s : List UInt8) : cntU (l ++ [x]) s = cntU l s + if x.uid = s then 1 else 0 := by
  unfold cntU
  rw [List.countP_append]
  by_cases h : x.uid = s <;> simp [h]
theorem cntU_any (l : List It) (s : List UInt8) : (l.any fun y => y.uid == s) = decide (0 < cntU l s) := by
  unfold cntU
  rw [Bool.eq_iff_iff, List.any_eq_true, decide_eq_true_iff, List.countP_pos_iff]
abbrev z64 {H : Type} : DataW H := .lit (.int .i64 0)
structure Seen {H : Type} (D : DataW H) (l : List It) : Prop where
  map : IsMap D
  at_ : ∀ s, D.atKey (.string s) z64 = .lit (.int .i64 (cntU l s : Nat))
theorem Seen.start {H : Type} : Seen (.map [] : DataW H) [] := ⟨isMap_empty, fun s => by simp [DataW.atKey, cntU]⟩
theorem Seen.step {H : Type} {D : DataW H} {l : List It} (h : Seen D l) (x : It) : Seen (D.put (.string x.uid) (.lit (.int .i64 ((cntU l x.uid : Int) + 1)))) (l ++ [x]) := by
  refine ⟨h.map.put _ _, fun s => ?_⟩
  rw [cntU_snoc]
  by_cases he : x.uid = s
  · subst he
    rw [atKey_put_same h.map (show WideAt.IsKeyLit (.string x.uid) from trivial), if_pos rfl]
    simp
  · rw [atKey_put_other (by intro e; injection e with e; exact he e.symm), h.at_, if_neg he]
    simp
theorem cnt_eq {H : Type} {D : DataW H} {l : List It} {s : List UInt8} {c : Int} {q : Nat} (h : Seen D l) (hq : cntU l s = q) (hat : D.atKey (.string s) z64 = .lit (.int .i64 c)) : c = (q : Int) := by
  have h1 := (h.at_ s).symm.trans hat
  injection h1 with h1
  injection h1 with _ h1
  rw [← h1, hq]
theorem badIt_eq (asked : Int) (pre : List It) (x : It) : badIt asked pre x = (decide (x.ver < 1) || ((asked != 0) && decide (x.ver ≤ asked)) || decide (0 < cntU pre x.uid)) := by
  rw [badIt, cntU_any]

end Go.Proofs.Ytbeckfnhgeclnaa
/-
  The copy: New, Token, More, Get; Fold where nothing, or all, goes.
-/
namespace Go.Proofs.Ytbeckfnhgeclnaa
open Go.RowKit Go.Lib

theorem Rep.lt {w : World} {S : Nat → Prop} {b : Nat} {token : Int} {more : Bool} {ml : ML It} (h : Rep w S b token more ml) : b < w.heap.size := by
  obtain ⟨mb, hb, _⟩ := h
  exact hb.lt
theorem Rep.mono {w : World} {S T : Nat → Prop} {b : Nat} {token : Int} {more : Bool} {ml : ML It} (h : Rep w S b token more ml) (hs : ∀ k, S k → T k) : Rep w T b token more ml := by
  obtain ⟨mb, hb, hO, hS⟩ := h
  exact ⟨mb, hb, hO.mono hs, hs _ hS⟩
theorem Rep.chg {w w' : World} {S T : Nat → Prop} {b : Nat} {token : Int} {more : Bool} {ml : ML It} (h : Rep w S b token more ml) (hc : Chg T w w') (hd : ∀ k, S k → ¬ T k) : Rep w' S b token more ml := by
  obtain ⟨mb, hb, hO, hS⟩ := h
  exact ⟨mb, hb.chg hc (hd _ hS), hO.chg hc hd, hS⟩
theorem Rep.below {w w' : World} {S : Nat → Prop} {b : Nat} {token : Int} {more : Bool} {ml : ML It} (h : Rep w S b token more ml) (hb : Below w.heap.size w w') : Rep w' S b token more ml :=
  h.chg (Chg.of_below Non hb) (fun _ _ => id)
theorem Rep.shrink {w : World} {S : Nat → Prop} {b : Nat} {token : Int} {more : Bool} {ml : ML It} (h : Rep w S b token more ml) : Rep w (fun k => S k ∧ k < w.heap.size) b token more ml := by
  obtain ⟨mb, hb, hO, hS⟩ := h
  exact ⟨mb, hb, hO.shrink, hS, hb.lt⟩
theorem Rep.rise {w : World} {S : Nat → Prop} {b : Nat} {token : Int} {more : Bool} {ml : ML It} (h : Rep w S b token more ml) : Rising ml := by
  obtain ⟨mb, hb, hO, hS⟩ := h
  exact hO.rise
/-- The map's blocks are none of another kind's. -/
theorem om_avoid {w : World} {S : Nat → Prop} {mb b : Nat} {ml : ML It} {t : TypeId} {cs : Array Value} (h : OmEntItem w S mb ml) (hb : Blk w b t cs) (h1 : 136 ≠ t) (h2 : 139 ≠ t) : OmEntItem w (fun q => S q ∧ q ≠ b) mb ml := by
  obtain ⟨A, c, hm, hr, hS, hi⟩ := h
  exact ⟨A, c, hm, ⟨hr.own, fun a ha => ⟨hr.fp a ha, hr.ne_blk hb h2 a ha⟩⟩, ⟨hS, hm.ne_ hb h1⟩, hi⟩

theorem rnew_calls (w : World) (S : Nat → Prop) (hS : ∀ k, w.heap.size ≤ k → S k) :
    Calls Try.prog 19 #[] w fun e w' => ∃ b, e = .returned (.pointer (some ⟨b, 0, none⟩)) ∧ w.heap.size ≤ b ∧ Rep w' S b 0 false [] ∧ Below w.heap.size w w' := by
  have hn := hd (omnewEntItem_calls w S (hS _ (Nat.le_refl _)))
  go_enter Try.func19, Try.ntmps19
  go_wp2_with fail
  refine hn.o.mono ?_
  rintro e w1 ⟨rfl, hO, hbe⟩
  obtain ⟨mb, hmb⟩ : ∃ mb, mb = w.heap.size := ⟨_, rfl⟩
  rw [← hmb] at hO ⊢
  have HS := hd hS
  have HO := hd hO
  have HB := hd hbe
  clear hmb hS hO hbe hn
  go_wp2
  go_ret
  exact ⟨w1.heap.size, rfl, HB.o.size, ⟨mb, Blk.new _ _ _, HO.o.below ((Below.refl _ w1).alloc (Nat.le_refl _) _), HS.o _ HB.o.size⟩, HB.o.alloc HB.o.size _⟩

theorem rtoken_calls (w : World) (S : Nat → Prop) (b : Nat) (token : Int) (more : Bool) (ml : ML It) (h : Rep w S b token more ml) :
    Calls Try.prog 25 #[.pointer (some ⟨b, 0, none⟩)] w fun e w' => e = .returned (.int .i64 token) ∧ w = w' := by
  obtain ⟨mb, hb, _⟩ := h
  have h1 := hb.at_ 1 rfl
  clear hb
  go_enter Try.func25, Try.ntmps25
  go_wp2
  go_ret
  exact ⟨rfl, rfl⟩
theorem rmore_calls (w : World) (S : Nat → Prop) (b : Nat) (token : Int) (more : Bool) (ml : ML It) (h : Rep w S b token more ml) :
    Calls Try.prog 26 #[.pointer (some ⟨b, 0, none⟩)] w fun e w' => e = .returned (.bool more) ∧ w = w' := by
  obtain ⟨mb, hb, _⟩ := h
  have h1 := hb.at_ 2 rfl
  clear hb
  go_enter Try.func26, Try.ntmps26
  go_wp2
  go_ret
  exact ⟨rfl, rfl⟩

/-- Nothing is taken. -/
theorem fold_no1 (w : World) (S : Nat → Prop) (b : Nat) (token : Int) (more : Bool) (ml : ML It) (h : Rep w S b token more ml) (asked : Int) (r : Rs) (A : Option Addr) (n c : Nat) (hk : r.kind ≠ 8 ∨ asked ≠ token) :
    Calls Try.prog 21 #[.pointer (some ⟨b, 0, none⟩), .int .i64 asked, .agg (rsEnc r A n c).toArray] w fun e w' => e = .returned (.int .i64 10) ∧ Below w.heap.size w w' := by
  obtain ⟨mb, hb, _⟩ := h
  have h1 := hb.at_ 1 rfl
  have hbl := hb.lt
  obtain ⟨kind, err, tok, version, card, index, mr⟩ := r
  simp only [rsEnc] at hk ⊢
  clear hb
  by_cases c1 : kind = 8
  · subst c1
    have hk2 : asked ≠ token := by rcases hk with h | h; exact absurd rfl h; exact h
    have f2 : (asked != token) = true := by simpa using hk2
    clear hk hk2
    go_enter Try.func21, Try.ntmps21
    go_wp2
    go_ret
    exact ⟨rfl, (Below.refl _ w).alloc (Nat.le_refl _) _⟩
  · have f1 : (kind != 8) = true := by simpa using c1
    clear hk c1
    go_enter Try.func21, Try.ntmps21
    go_wp2
    go_ret
    exact ⟨rfl, (Below.refl _ w).alloc (Nat.le_refl _) _⟩

theorem fold_no2 (w : World) (S : Nat → Prop) (b : Nat) (token : Int) (more : Bool) (ml : ML It) (h : Rep w S b token more ml) (r : Rs) (A : Option Addr) (n c : Nat) (hk : r.kind = 8) (he : r.err ≠ 8) (he0 : r.err ≠ 0) :
    Calls Try.prog 21 #[.pointer (some ⟨b, 0, none⟩), .int .i64 token, .agg (rsEnc r A n c).toArray] w fun e w' => e = .returned (.int .i64 10) ∧ Below w.heap.size w w' := by
  obtain ⟨mb, hb, _⟩ := h
  have h1 := hb.at_ 1 rfl
  have hbl := hb.lt
  obtain ⟨kind, err, tok, version, card, index, mr⟩ := r
  simp only at hk he he0
  simp only [rsEnc]
  subst hk
  have f1 : (err == 8) = false := by simpa using he
  have f2 : (err != 0) = true := by simpa using he0
  have f3 : (token != token) = false := by simp
  clear hb he he0
  go_enter Try.func21, Try.ntmps21
  go_wp2
  go_ret
  exact ⟨rfl, (Below.refl _ w).alloc (Nat.le_refl _) _⟩

theorem fold_no3 (w : World) (S : Nat → Prop) (b : Nat) (token : Int) (more : Bool) (ml : ML It) (h : Rep w S b token more ml) (r : Rs) (A : Option Addr) (n c : Nat) (hk : r.kind = 8) (he : r.err = 0) (ht : r.token < token) :
    Calls Try.prog 21 #[.pointer (some ⟨b, 0, none⟩), .int .i64 token, .agg (rsEnc r A n c).toArray] w fun e w' => e = .returned (.int .i64 1) ∧ Below w.heap.size w w' := by
  obtain ⟨mb, hb, _⟩ := h
  have h1 := hb.at_ 1 rfl
  have hbl := hb.lt
  obtain ⟨kind, err, tok, version, card, index, mr⟩ := r
  simp only at hk he ht
  simp only [rsEnc]
  subst hk he
  have f3 : (token != token) = false := by simp
  clear hb
  go_enter Try.func21, Try.ntmps21
  go_wp2
  go_ret
  exact ⟨rfl, (Below.refl _ w).alloc (Nat.le_refl _) _⟩

/-- All goes. -/
theorem fold_all (w : World) (S : Nat → Prop) (b : Nat) (token : Int) (more : Bool) (ml : ML It) (h : Rep w S b token more ml) (r : Rs) (A : Option Addr) (n c : Nat) (hk : r.kind = 8) (he : r.err = 8) :
    Calls Try.prog 21 #[.pointer (some ⟨b, 0, none⟩), .int .i64 token, .agg (rsEnc r A n c).toArray] w fun e w' => e = .returned (.int .i64 0) ∧ Rep w' (Plus S w.heap.size) b 0 false [] ∧ Chg S w w' := by
  obtain ⟨mb, hb, hO, hS⟩ := h
  have h1 := hb.at_ 1 rfl
  have hbl := hb.lt
  have HB := hd hb
  obtain ⟨kind, err, tok, version, card, index, mr⟩ := r
  simp only at hk he
  simp only [rsEnc]
  subst hk he
  have f3 : (token != token) = false := by simp
  clear hb hO
  go_enter Try.func21, Try.ntmps21
  go_wp2_with fail
  refine (rnew_calls _ (fun q => w.heap.size < q) (fun q hq => by simp at hq; omega)).mono ?_
  rintro e w1 ⟨nb, rfl, hnb, ⟨mb2, hb2, hO2, hS2⟩, hbe⟩
  have hbw : Below w.heap.size w w1 := ((Below.refl _ w).alloc (Nat.le_refl _) _).trans (hbe.mono (by simp))
  have hb1 := HB.o.below hbw HB.o.lt
  have y0 := hb1.at_ 0 rfl
  have y1 := hb1.at_ 1 rfl
  have y2 := hb1.at_ 2 rfl
  have q0 := hb1.frozen 0
  have q1 := hb1.frozen 1
  have q2 := hb1.frozen 2
  have z0 := hb2.at_ 0 rfl
  have z1 := hb2.at_ 1 rfl
  have z2 := hb2.at_ 2 rfl
  have HB1 := hd hb1
  have HO2 := hd hO2
  have HBW := hd hbw
  clear hb1 hb2 hO2 hbe hbw
  go_wp2
  go_ret
  have hmb : mb2 ≠ b := by
    obtain ⟨A, c, hm, hr, hS, hi⟩ := HO2.o
    have : w.heap.size < mb2 := hS
    omega
  refine ⟨rfl, ⟨mb2, ?_, ?_, .inl hS⟩, ?_⟩
  · exact ((HB1.o.set_ 0 _).set_ 1 _).set_ 2 _
  · obtain ⟨A, c, hm, hr, hS, hi⟩ := HO2.o
    refine ⟨A, c, ((hm.far hmb _).far hmb _).far hmb _, (((hr.mono fun q hq => Or.inr (by omega : w.heap.size ≤ q)).far ?_ _).far ?_ _).far ?_ _, .inr (by have : w.heap.size < mb2 := hS; omega), hi⟩
    all_goals exact fun a ha => by have : w.heap.size < a.block := hr.fp a ha; show a.block ≠ b; omega
  · exact (((Chg.of_below S HBW.o).setCell (.inl hS) _).setCell (.inl hS) _).setCell (.inl hS) _

end Go.Proofs.Ytbeckfnhgeclnaa
/-
  The copy: Fold where the items are looked at.
-/
namespace Go.Proofs.Ytbeckfnhgeclnaa
open Go.RowKit Go.Lib Go.Maps Go.WideMaps

theorem lawS : Keyed Try.prog 9 := string_keyed Try.underlying9
theorem zeroI (w : World) : (zeroValue 3).run Try.prog w = .ok (.int .i64 0) w := by kernel_rfl
theorem itsEnc_at (l : List It) (i : Nat) (h : i < l.length) (j : Nat) (hj : j < 4) : (itsEnc l)[i * 4 + j]? = (itEnc l[i])[j]? := flat_at itEnc 4 itEnc_len l i h j hj

set_option maxRecDepth 100000 in
set_option maxHeartbeats 8000000 in
theorem fold_items (w : World) (S : Nat → Prop) (b : Nat) (token : Int) (more : Bool) (ml : ML It) (h : Rep w S b token more ml) (hSw : ∀ q, S q → q < w.heap.size) (r : Rs) (items : List It) (A : Option Addr) (c : Nat) (hk : r.kind = 8) (he : r.err = 0) (ht : ¬ r.token < token)
    (hr : Rds w A items.length 4 (itsEnc items)) (hAS : items ≠ [] → ∀ q, Of A q → ¬ S q) (hl : ml.length + items.length ≤ 1000000) (hsz : ∀ x ∈ items, x.uid.length ≤ maxLen) :
    Calls Try.prog 21 #[.pointer (some ⟨b, 0, none⟩), .int .i64 token, .agg (rsEnc r A items.length c).toArray] w fun e w' =>
      (e = .returned (.int .i64 1) ∧ ¬ okIts token items ∧ Below w.heap.size w w') ∨ (e = .returned (.int .i64 0) ∧ okIts token items ∧ Rep w' (Plus S w.heap.size) b r.token r.more (foldIts (if token = 0 then [] else ml) items) ∧ Chg S w w') := by
  have HREP := hd h
  have HR := hd hr
  have HSW := hd hSw
  have HAS := hd hAS
  have HSZ := hd hsz
  obtain ⟨mb, hb, hO, hS⟩ := h
  have h1 := hb.at_ 1 rfl
  have hbl := hb.lt
  have hO' := om_avoid hO hb (by decide) (by decide)
  have HB := hd hb
  have HO := hd hO'
  obtain ⟨n, hn⟩ : ∃ n, items.length = n := ⟨_, rfl⟩
  have HN := hd hn
  rw [hn] at hl ⊢
  obtain ⟨kind, err, tok, version, card, index, mr⟩ := r
  simp only at hk he ht
  simp only [rsEnc]
  subst hk he
  have f3 : (token != token) = false := by simp
  have hmm := @run_makeMap Try.prog
  have hnl : n ≤ 1000000 := by omega
  obtain ⟨base, hbase⟩ : ∃ base, (if token = 0 then [] else ml) = base := ⟨_, rfl⟩
  rw [hbase]
  have HBASE := hd hbase
  clear hbase
  clear hb hO hO' hn hr hSw hAS hsz
  go_enter Try.func21, Try.ntmps21
  go_wp2_with fail
  have hB0 : Below w.heap.size w ((w.alloc (.cells #[.int .i64 8, .int .i64 0, .int .i64 tok, .int .i64 version, .string (bs card), .int .i64 index, .bool mr, .slice A n c] 35)).alloc (.map #[] 0)) := ((Below.refl _ w).alloc (Nat.le_refl _) _).alloc (by simp) _
  have hP0 : Blk ((w.alloc (.cells #[.int .i64 8, .int .i64 0, .int .i64 tok, .int .i64 version, .string (bs card), .int .i64 index, .bool mr, .slice A n c] 35)).alloc (.map #[] 0)) w.heap.size 35 #[.int .i64 8, .int .i64 0, .int .i64 tok, .int .i64 version, .string (bs card), .int .i64 index, .bool mr, .slice A n c] := (Blk.new w 35 _).alloc _
  have hM0 : ((w.alloc (.cells #[.int .i64 8, .int .i64 0, .int .i64 tok, .int .i64 version, .string (bs card), .int .i64 index, .bool mr, .slice A n c] 35)).alloc (.map #[] 0)).ownsMap Try.prog 9 (plainElem (H := Unit) Try.prog 3) (w.heap.size + 1) 0 (.map []) := by
    have h := World.ownsMap_made (H := Unit) (w.alloc (.cells #[.int .i64 8, .int .i64 0, .int .i64 tok, .int .i64 version, .string (bs card), .int .i64 index, .bool mr, .slice A n c] 35)) Try.prog 9 (plainElem Try.prog 3)
    rwa [World.size_alloc] at h
  have HB0 := hd hB0
  have HP0 := hd hP0
  have HM0 := hd hM0
  clear hB0 hP0 hM0 h1
  go_loopw [42] (fun i wr => ∃ (k : Nat) (D : DataW Unit), i = .int .i64 k ∧ k ≤ n ∧ wr.ownsMap Try.prog 9 (plainElem Try.prog 3) (w.heap.size + 1) k D ∧ Hd (Seen D (items.take k)) ∧ Hd (∀ j (h : j < items.length), j < k → badIt token (items.take j) items[j] = false) ∧ Hd (Below w.heap.size w wr) ∧ Hd (Blk wr w.heap.size 35 #[.int .i64 8, .int .i64 0, .int .i64 tok, .int .i64 version, .string (bs card), .int .i64 index, .bool mr, .slice A n c])) (fun i _ => n - (intOf i).toNat)
  case atStart => exact ⟨0, _, rfl, Nat.zero_le _, HM0.o, Seen.start, hd (fun j _ h => absurd h (Nat.not_lt_zero _)), HB0, HP0⟩
  case round =>
    clear HB0 HP0 HM0
    obtain ⟨k, D, rfl, hk, hown, HSEEN, HALL, HBE, HP⟩ := hrel
    have hki : (0 : Int) ≤ (k : Int) := by omega
    by_cases hlt : k < n
    · have hlti : (k : Int) < (n : Int) := by omega
      have hkl : k < items.length := by rw [HN.o]; exact hlt
      obtain ⟨g, o, rfl, hgw, hc⟩ := HR.o.at_ (by omega)
      obtain ⟨x, hx⟩ : ∃ x, items[k]'hkl = x := ⟨_, rfl⟩
      have HLEN0 : x.uid.length ≤ maxLen := by rw [← hx]; exact HSZ.o _ (List.getElem_mem hkl)
      have HKL := hd hkl
      have HTK : Hd (items.take (k + 1) = items.take k ++ [x]) := hd (by rw [List.take_succ_eq_append_getElem hkl, hx])
      have hcell : ∀ j u, j < 4 → (itEnc x)[j]? = some u → wr.cell? ⟨g, o + (k * 4 + j), none⟩ = some u := fun j u hj hv => (HBE.o.cell (p := ⟨g, o + (k * 4 + j), none⟩) hgw).trans (hc _ _ ((itsEnc_at items k hkl j hj).trans (by rw [hx]; exact hv)))
      have HX : Hd (items[k]'HKL.o = x) := hd hx
      obtain ⟨uid, ver, gone, text⟩ := x
      have k0 := hcell 0 _ (by omega) rfl
      have k1 := hcell 1 _ (by omega) rfl
      have k2 := hcell 2 _ (by omega) rfl
      have k3 := hcell 3 _ (by omega) rfl
      rw [← Nat.add_assoc] at k0 k1 k2 k3
      rw [Nat.add_zero] at k0
      obtain ⟨q, hq⟩ : ∃ q, cntU (items.take k) uid = q := ⟨_, rfl⟩
      have hqk : q ≤ k := by rw [← hq]; have := cntU_le (items.take k) uid; rw [List.length_take] at this; omega
      have HSEEN2 : Hd (Seen (D.put (.string uid) (.lit (.int .i64 ((q : Int) + 1)))) (items.take k ++ [(⟨uid, ver, gone, text⟩ : It)])) := hd (by
        have := HSEEN.o.step ⟨uid, ver, gone, text⟩
        simp only [hq] at this
        exact this)
      have hq2 : cntU (items.take k ++ [(⟨uid, ver, gone, text⟩ : It)]) uid = q + 1 := by rw [cntU_snoc, hq]; simp
      have HLEN : Hd ((bs uid).size ≤ maxLen) := hd (by rw [bs_size]; exact HLEN0)
      have hlm := hown.lt
      have OWNA := hd (fun (cs : Array Value) (t : TypeId) => hown.kept (World.grownBy_alloc wr (.cells cs t) none) (by simp))
      have HBA := hd (fun (cs : Array Value) (t : TypeId) => HBE.o.alloc HBE.o.size (.cells cs t))
      have HPA := hd (fun (cs : Array Value) (t : TypeId) => HP.o.alloc (.cells cs t))
      have HX0 := hd (fun (cs : Array Value) (t : TypeId) => Blk.new wr t cs)
      have HBE2 := badIt_eq token (items.take k) (⟨uid, ver, gone, text⟩ : It)
      simp only [hq] at HBE2
      have hp7 := HP.o.at_ 7 rfl
      have hpl := HP.o.lt
      have hq0 : (0 : Int) ≤ (q : Int) := by omega
      have hqn : (q : Int) ≤ 1000000 := by omega
      have HQ := hd hq
      have HQ2 := hd hq2
      clear hcell hc hown hx HLEN0 hkl hq hq2
      by_cases v2 : token = 0
      · have f2 : (token != 0) = false := by simpa using v2
        clear v2
        by_cases v1 : ver < 1
        · have f1 : decide (ver < 1) = true := by simpa using v1
          have hbad : badIt token (items.take k) (items[k]'HKL.o) = true := by rw [HX.o, HBE2, f1]; rfl
          clear HBE2 v1
          have HBAD := hd (hbad : badIt token (items.take k) (items[k]'HKL.o) = true)
          clear hbad
          go_wp2_with (first
            | (at_lookup; refine wpList_lookup_own_int _ rfl _ _ 90 rfl 9 3 .i64 lawS Try.underlying90 Try.underlying3 (zeroI _) (w.heap.size + 1) _ _ rfl (OWNA.o _ _) _ _ rfl (keyOf_string_mk Try.underlying9 HLEN.o) ?_; intro c1 hat1 hwc1; have hc1 := cnt_eq HSEEN.o HQ.o hat1; subst hc1; clear hat1 hwc1)
            | (at_mapUpdate; refine wpList_mapUpdate_own _ rfl _ _ _ 90 rfl 9 3 lawS Try.underlying90 _ (w.heap.size + 1) k _ rfl (OWNA.o _ _) (by unfold maxLen; omega) _ _ _ rfl rfl (keyOf_string_mk Try.underlying9 HLEN.o) _ [] (plainElem_int Try.underlying3 (WalkArith.wf_i64 (by omega))) ?_; intro w1 hown1 hgrow1; have OWN2 := hd hown1; obtain ⟨c2, hrun2, hat2, hwc2⟩ := hown1.lookup_int lawS Try.underlying90 Try.underlying3 (zeroI _) (keyOf_string_mk Try.underlying9 HLEN.o); have hc2 := cnt_eq HSEEN2.o HQ2.o hat2; subst hc2; clear hat2 hwc2; have hbx := (HX0.o _ _).grown hgrow1 (by simp <;> omega); have x0' := hbx.at_ 0 rfl; have x1' := hbx.at_ 1 rfl; have BE1 := hd ((HBA.o _ _).grown hgrow1 (by simp <;> omega) (fun j hj => by cases hj; omega)); have BP1 := hd ((HPA.o _ _).grown hgrow1 (by simp)); clear hown1 hgrow1 hbx))
          go_wp2
          go_ret
          exact .inl ⟨rfl, okIts_bad HKL.o HBAD.o, BE1.o⟩
        · have f1 : decide (ver < 1) = false := by simpa using v1
          by_cases v3 : 0 < q
          · have f4 : decide ((1 : Int) < (q : Int) + 1) = true := by simp; omega
            have hbad : badIt token (items.take k) (items[k]'HKL.o) = true := by rw [HX.o, HBE2, f1, f2]; simpa using v3
            clear HBE2 v1
            have HBAD := hd (hbad : badIt token (items.take k) (items[k]'HKL.o) = true)
            clear hbad
            go_wp2_with (first
            | (at_lookup; refine wpList_lookup_own_int _ rfl _ _ 90 rfl 9 3 .i64 lawS Try.underlying90 Try.underlying3 (zeroI _) (w.heap.size + 1) _ _ rfl (OWNA.o _ _) _ _ rfl (keyOf_string_mk Try.underlying9 HLEN.o) ?_; intro c1 hat1 hwc1; have hc1 := cnt_eq HSEEN.o HQ.o hat1; subst hc1; clear hat1 hwc1)
            | (at_mapUpdate; refine wpList_mapUpdate_own _ rfl _ _ _ 90 rfl 9 3 lawS Try.underlying90 _ (w.heap.size + 1) k _ rfl (OWNA.o _ _) (by unfold maxLen; omega) _ _ _ rfl rfl (keyOf_string_mk Try.underlying9 HLEN.o) _ [] (plainElem_int Try.underlying3 (WalkArith.wf_i64 (by omega))) ?_; intro w1 hown1 hgrow1; have OWN2 := hd hown1; obtain ⟨c2, hrun2, hat2, hwc2⟩ := hown1.lookup_int lawS Try.underlying90 Try.underlying3 (zeroI _) (keyOf_string_mk Try.underlying9 HLEN.o); have hc2 := cnt_eq HSEEN2.o HQ2.o hat2; subst hc2; clear hat2 hwc2; have hbx := (HX0.o _ _).grown hgrow1 (by simp <;> omega); have x0' := hbx.at_ 0 rfl; have x1' := hbx.at_ 1 rfl; have BE1 := hd ((HBA.o _ _).grown hgrow1 (by simp <;> omega) (fun j hj => by cases hj; omega)); have BP1 := hd ((HPA.o _ _).grown hgrow1 (by simp)); clear hown1 hgrow1 hbx))
            go_wp2
            go_ret
            exact .inl ⟨rfl, okIts_bad HKL.o HBAD.o, BE1.o⟩
          · have f4 : decide ((1 : Int) < (q : Int) + 1) = false := by simp; omega
            have hgood : badIt token (items.take k) (items[k]'HKL.o) = false := by rw [HX.o, HBE2, f1, f2]; simpa using v3
            clear HBE2 v1
            have HGOOD := hd (hgood : badIt token (items.take k) (items[k]'HKL.o) = false)
            clear hgood
            go_wp2_with (first
            | (at_lookup; refine wpList_lookup_own_int _ rfl _ _ 90 rfl 9 3 .i64 lawS Try.underlying90 Try.underlying3 (zeroI _) (w.heap.size + 1) _ _ rfl (OWNA.o _ _) _ _ rfl (keyOf_string_mk Try.underlying9 HLEN.o) ?_; intro c1 hat1 hwc1; have hc1 := cnt_eq HSEEN.o HQ.o hat1; subst hc1; clear hat1 hwc1)
            | (at_mapUpdate; refine wpList_mapUpdate_own _ rfl _ _ _ 90 rfl 9 3 lawS Try.underlying90 _ (w.heap.size + 1) k _ rfl (OWNA.o _ _) (by unfold maxLen; omega) _ _ _ rfl rfl (keyOf_string_mk Try.underlying9 HLEN.o) _ [] (plainElem_int Try.underlying3 (WalkArith.wf_i64 (by omega))) ?_; intro w1 hown1 hgrow1; have OWN2 := hd hown1; obtain ⟨c2, hrun2, hat2, hwc2⟩ := hown1.lookup_int lawS Try.underlying90 Try.underlying3 (zeroI _) (keyOf_string_mk Try.underlying9 HLEN.o); have hc2 := cnt_eq HSEEN2.o HQ2.o hat2; subst hc2; clear hat2 hwc2; have hbx := (HX0.o _ _).grown hgrow1 (by simp <;> omega); have x0' := hbx.at_ 0 rfl; have x1' := hbx.at_ 1 rfl; have BE1 := hd ((HBA.o _ _).grown hgrow1 (by simp <;> omega) (fun j hj => by cases hj; omega)); have BP1 := hd ((HPA.o _ _).grown hgrow1 (by simp)); clear hown1 hgrow1 hbx))
            go_wp2
            go_roundw
            case rel =>
              refine ⟨k + 1, _, by go_num, by omega, OWN2.o, hd (by rw [HTK.o]; exact HSEEN2.o), hd (fun j hj hjk => ?_), BE1, BP1⟩
              by_cases hjj : j < k
              · exact HALL.o j hj hjj
              · obtain rfl : j = k := by omega
                exact HGOOD.o
            case measure => simp [intOf]; omega
      · have f2 : (token != 0) = true := by simpa using v2
        clear v2
        by_cases v1 : ver < 1
        · have f1 : decide (ver < 1) = true := by simpa using v1
          have hbad : badIt token (items.take k) (items[k]'HKL.o) = true := by rw [HX.o, HBE2, f1]; rfl
          clear HBE2 v1
          have HBAD := hd (hbad : badIt token (items.take k) (items[k]'HKL.o) = true)
          clear hbad
          go_wp2_with (first
            | (at_lookup; refine wpList_lookup_own_int _ rfl _ _ 90 rfl 9 3 .i64 lawS Try.underlying90 Try.underlying3 (zeroI _) (w.heap.size + 1) _ _ rfl (OWNA.o _ _) _ _ rfl (keyOf_string_mk Try.underlying9 HLEN.o) ?_; intro c1 hat1 hwc1; have hc1 := cnt_eq HSEEN.o HQ.o hat1; subst hc1; clear hat1 hwc1)
            | (at_mapUpdate; refine wpList_mapUpdate_own _ rfl _ _ _ 90 rfl 9 3 lawS Try.underlying90 _ (w.heap.size + 1) k _ rfl (OWNA.o _ _) (by unfold maxLen; omega) _ _ _ rfl rfl (keyOf_string_mk Try.underlying9 HLEN.o) _ [] (plainElem_int Try.underlying3 (WalkArith.wf_i64 (by omega))) ?_; intro w1 hown1 hgrow1; have OWN2 := hd hown1; obtain ⟨c2, hrun2, hat2, hwc2⟩ := hown1.lookup_int lawS Try.underlying90 Try.underlying3 (zeroI _) (keyOf_string_mk Try.underlying9 HLEN.o); have hc2 := cnt_eq HSEEN2.o HQ2.o hat2; subst hc2; clear hat2 hwc2; have hbx := (HX0.o _ _).grown hgrow1 (by simp <;> omega); have x0' := hbx.at_ 0 rfl; have x1' := hbx.at_ 1 rfl; have BE1 := hd ((HBA.o _ _).grown hgrow1 (by simp <;> omega) (fun j hj => by cases hj; omega)); have BP1 := hd ((HPA.o _ _).grown hgrow1 (by simp)); clear hown1 hgrow1 hbx))
          go_wp2
          go_ret
          exact .inl ⟨rfl, okIts_bad HKL.o HBAD.o, BE1.o⟩
        · have f1 : decide (ver < 1) = false := by simpa using v1
          by_cases v4 : ver ≤ token
          · have f3' : decide (ver ≤ token) = true := by simpa using v4
            have hbad : badIt token (items.take k) (items[k]'HKL.o) = true := by rw [HX.o, HBE2, f1, f2, f3']; rfl
            clear HBE2 v1 v4
            have HBAD := hd (hbad : badIt token (items.take k) (items[k]'HKL.o) = true)
            clear hbad
            go_wp2_with (first
            | (at_lookup; refine wpList_lookup_own_int _ rfl _ _ 90 rfl 9 3 .i64 lawS Try.underlying90 Try.underlying3 (zeroI _) (w.heap.size + 1) _ _ rfl (OWNA.o _ _) _ _ rfl (keyOf_string_mk Try.underlying9 HLEN.o) ?_; intro c1 hat1 hwc1; have hc1 := cnt_eq HSEEN.o HQ.o hat1; subst hc1; clear hat1 hwc1)
            | (at_mapUpdate; refine wpList_mapUpdate_own _ rfl _ _ _ 90 rfl 9 3 lawS Try.underlying90 _ (w.heap.size + 1) k _ rfl (OWNA.o _ _) (by unfold maxLen; omega) _ _ _ rfl rfl (keyOf_string_mk Try.underlying9 HLEN.o) _ [] (plainElem_int Try.underlying3 (WalkArith.wf_i64 (by omega))) ?_; intro w1 hown1 hgrow1; have OWN2 := hd hown1; obtain ⟨c2, hrun2, hat2, hwc2⟩ := hown1.lookup_int lawS Try.underlying90 Try.underlying3 (zeroI _) (keyOf_string_mk Try.underlying9 HLEN.o); have hc2 := cnt_eq HSEEN2.o HQ2.o hat2; subst hc2; clear hat2 hwc2; have hbx := (HX0.o _ _).grown hgrow1 (by simp <;> omega); have x0' := hbx.at_ 0 rfl; have x1' := hbx.at_ 1 rfl; have BE1 := hd ((HBA.o _ _).grown hgrow1 (by simp <;> omega) (fun j hj => by cases hj; omega)); have BP1 := hd ((HPA.o _ _).grown hgrow1 (by simp)); clear hown1 hgrow1 hbx))
            go_wp2
            go_ret
            exact .inl ⟨rfl, okIts_bad HKL.o HBAD.o, BE1.o⟩
          · have f3' : decide (ver ≤ token) = false := by simpa using v4
            by_cases v3 : 0 < q
            · have f4 : decide ((1 : Int) < (q : Int) + 1) = true := by simp; omega
              have hbad : badIt token (items.take k) (items[k]'HKL.o) = true := by rw [HX.o, HBE2, f1, f2, f3']; simpa using v3
              clear HBE2 v1 v4
              have HBAD := hd (hbad : badIt token (items.take k) (items[k]'HKL.o) = true)
              clear hbad
              go_wp2_with (first
            | (at_lookup; refine wpList_lookup_own_int _ rfl _ _ 90 rfl 9 3 .i64 lawS Try.underlying90 Try.underlying3 (zeroI _) (w.heap.size + 1) _ _ rfl (OWNA.o _ _) _ _ rfl (keyOf_string_mk Try.underlying9 HLEN.o) ?_; intro c1 hat1 hwc1; have hc1 := cnt_eq HSEEN.o HQ.o hat1; subst hc1; clear hat1 hwc1)
            | (at_mapUpdate; refine wpList_mapUpdate_own _ rfl _ _ _ 90 rfl 9 3 lawS Try.underlying90 _ (w.heap.size + 1) k _ rfl (OWNA.o _ _) (by unfold maxLen; omega) _ _ _ rfl rfl (keyOf_string_mk Try.underlying9 HLEN.o) _ [] (plainElem_int Try.underlying3 (WalkArith.wf_i64 (by omega))) ?_; intro w1 hown1 hgrow1; have OWN2 := hd hown1; obtain ⟨c2, hrun2, hat2, hwc2⟩ := hown1.lookup_int lawS Try.underlying90 Try.underlying3 (zeroI _) (keyOf_string_mk Try.underlying9 HLEN.o); have hc2 := cnt_eq HSEEN2.o HQ2.o hat2; subst hc2; clear hat2 hwc2; have hbx := (HX0.o _ _).grown hgrow1 (by simp <;> omega); have x0' := hbx.at_ 0 rfl; have x1' := hbx.at_ 1 rfl; have BE1 := hd ((HBA.o _ _).grown hgrow1 (by simp <;> omega) (fun j hj => by cases hj; omega)); have BP1 := hd ((HPA.o _ _).grown hgrow1 (by simp)); clear hown1 hgrow1 hbx))
              go_wp2
              go_ret
              exact .inl ⟨rfl, okIts_bad HKL.o HBAD.o, BE1.o⟩
            · have f4 : decide ((1 : Int) < (q : Int) + 1) = false := by simp; omega
              have hgood : badIt token (items.take k) (items[k]'HKL.o) = false := by rw [HX.o, HBE2, f1, f2, f3']; simpa using v3
              clear HBE2 v1 v4
              have HGOOD := hd (hgood : badIt token (items.take k) (items[k]'HKL.o) = false)
              clear hgood
              go_wp2_with (first
            | (at_lookup; refine wpList_lookup_own_int _ rfl _ _ 90 rfl 9 3 .i64 lawS Try.underlying90 Try.underlying3 (zeroI _) (w.heap.size + 1) _ _ rfl (OWNA.o _ _) _ _ rfl (keyOf_string_mk Try.underlying9 HLEN.o) ?_; intro c1 hat1 hwc1; have hc1 := cnt_eq HSEEN.o HQ.o hat1; subst hc1; clear hat1 hwc1)
            | (at_mapUpdate; refine wpList_mapUpdate_own _ rfl _ _ _ 90 rfl 9 3 lawS Try.underlying90 _ (w.heap.size + 1) k _ rfl (OWNA.o _ _) (by unfold maxLen; omega) _ _ _ rfl rfl (keyOf_string_mk Try.underlying9 HLEN.o) _ [] (plainElem_int Try.underlying3 (WalkArith.wf_i64 (by omega))) ?_; intro w1 hown1 hgrow1; have OWN2 := hd hown1; obtain ⟨c2, hrun2, hat2, hwc2⟩ := hown1.lookup_int lawS Try.underlying90 Try.underlying3 (zeroI _) (keyOf_string_mk Try.underlying9 HLEN.o); have hc2 := cnt_eq HSEEN2.o HQ2.o hat2; subst hc2; clear hat2 hwc2; have hbx := (HX0.o _ _).grown hgrow1 (by simp <;> omega); have x0' := hbx.at_ 0 rfl; have x1' := hbx.at_ 1 rfl; have BE1 := hd ((HBA.o _ _).grown hgrow1 (by simp <;> omega) (fun j hj => by cases hj; omega)); have BP1 := hd ((HPA.o _ _).grown hgrow1 (by simp)); clear hown1 hgrow1 hbx))
              go_wp2
              go_roundw
              case rel =>
                refine ⟨k + 1, _, by go_num, by omega, OWN2.o, hd (by rw [HTK.o]; exact HSEEN2.o), hd (fun j hj hjk => ?_), BE1, BP1⟩
                by_cases hjj : j < k
                · exact HALL.o j hj hjj
                · obtain rfl : j = k := by omega
                  exact HGOOD.o
              case measure => simp [intOf]; omega
    · obtain rfl : k = n := by omega
      have HOK : Hd (okIts token items) := hd (fun j hj => HALL.o j hj (by rw [HN.o] at hj; exact hj))
      have HBR := hd (HB.o.below HBE.o hbl)
      have HOR := hd (HO.o.shrink.below HBE.o)
      have hbr := HBR.o.lt
      have hs0 := HBE.o.size
      have hpl := HP.o.lt
      clear hown HSEEN HALL
      go_upto_if 73 with (fail)
      go_cut [] from 72 to 77 (fun wx => ∃ (mb2 : Nat) (S2 : Nat → Prop), Hd (Blk wx b 89 #[.pointer (some ⟨mb2, 0, none⟩), .int .i64 token, .bool more]) ∧ Hd (OmEntItem wx S2 mb2 base) ∧ Hd (∀ q, S2 q → (S q ∨ w.heap.size ≤ q) ∧ q < wx.heap.size ∧ q ≠ b ∧ q ≠ w.heap.size) ∧ Hd (Blk wx w.heap.size 35 #[.int .i64 8, .int .i64 0, .int .i64 tok, .int .i64 version, .string (bs card), .int .i64 index, .bool mr, .slice A k c]) ∧ Hd (Chg S w wx))
      case first =>
        by_cases v2 : token = 0
        · have f2 : (token == 0) = true := by simpa using v2
          have hbs : base = [] := by rw [← HBASE.o, if_pos v2]
          have HBS := hd hbs
          have hb0 := HBR.o.at_ 0 rfl
          have hb1 := HBR.o.at_ 1 rfl
          clear v2 hbs
          go_wp2_with fail
          refine (omnewEntItem_calls wr (fun q => wr.heap.size ≤ q) (Nat.le_refl _)).mono ?_
          rintro e w1 ⟨rfl, hO1, hbe1⟩
          have hbb := HBR.o.below hbe1 hbr
          have y0 := hbb.at_ 0 rfl
          have q0 := hbb.frozen 0
          have hsz1 := hbe1.size
          have HBB := hd hbb
          have HO1 := hd hO1
          have HBE1 := hd hbe1
          have HP1 := hd (HP.o.below hbe1 hpl)
          obtain ⟨nb, hnb⟩ : ∃ nb, nb = wr.heap.size := ⟨_, rfl⟩
          have HNB := hd hnb
          clear hbb hO1 hbe1 hnb
          go_wp2_with fail
          go_meet
          refine ⟨wr.heap.size, fun q => wr.heap.size ≤ q ∧ q < w1.heap.size, hd (HBB.o.set_ 0 _), hd ?_, hd ?_, hd ?_, hd ?_⟩
          · rw [HBS.o]
            exact HO1.o.shrink.chg ((Chg.refl (One b) w1).setCell (p := ⟨b, 0, none⟩) (.inl rfl) _) (fun q hq hb => by cases hb; omega)
          · intro q hq
            rw [size_setCell]
            omega
          · exact HP1.o.far (p := ⟨b, 0, none⟩) (by show w.heap.size ≠ b; omega) _
          · exact ((Chg.of_below S HBE.o).trans (Chg.of_below Non HBE1.o) (fun _ h => h.elim)).setCell (.inl hS) _
        · have f2 : (token == 0) = false := by simpa using v2
          have hbs : base = ml := by rw [← HBASE.o, if_neg v2]
          have HBS := hd hbs
          clear v2 hbs
          go_wp2_with fail
          go_meet
          refine ⟨mb, _, HBR, hd (by rw [HBS.o]; exact HOR.o), hd (fun q hq => ?_), HP, hd (Chg.of_below S HBE.o)⟩
          obtain ⟨⟨h1, h2⟩, h3⟩ := hq
          exact ⟨.inl h1, by omega, h2, by omega⟩
      case rest =>
        obtain ⟨mb2, S2, HB2, HO2, HS2, HP2, HC2⟩ := hcut
        have hp7 := HP2.o.at_ 7 rfl
        have hpl2 := HP2.o.lt
        clear HBE HP HBR HOR hbr hs0 hpl
        go_wp2_with fail
        go_loopw [81] (fun i wr => ∃ (j : Nat) (S3 : Nat → Prop), i = .int .i64 j ∧ j ≤ k ∧ Hd (Blk wr b 89 #[.pointer (some ⟨mb2, 0, none⟩), .int .i64 token, .bool more]) ∧ Hd (OmEntItem wr S3 mb2 (foldIts base (items.take j))) ∧ Hd (∀ q, S3 q → (S q ∨ w.heap.size ≤ q) ∧ q < wr.heap.size ∧ q ≠ b ∧ q ≠ w.heap.size) ∧ Hd (Blk wr w.heap.size 35 #[.int .i64 8, .int .i64 0, .int .i64 tok, .int .i64 version, .string (bs card), .int .i64 index, .bool mr, .slice A k c]) ∧ Hd (Chg S w wr)) (fun i _ => k - (intOf i).toNat)
        case atStart => exact ⟨0, S2, rfl, Nat.zero_le _, HB2, HO2, HS2, HP2, HC2⟩
        case round =>
          clear HB2 HO2 HS2 HP2 HC2 hp7 hpl2
          obtain ⟨j, S3, rfl, hj, HB3, HO3, HS3, HP3, HC3⟩ := hrel
          have hb0 := HB3.o.at_ 0 rfl
          have hb1 := HB3.o.at_ 1 rfl
          have hb3l := HB3.o.lt
          have hsw := HC3.o.size
          have hp7 := HP3.o.at_ 7 rfl
          have hpl3 := HP3.o.lt
          by_cases hlt : j < k
          · have hlti : (j : Int) < (k : Int) := by omega
            have hji : (0 : Int) ≤ (j : Int) := by omega
            have hjl : j < items.length := by rw [HN.o]; exact hlt
            obtain ⟨g, o, rfl, hgw, hc⟩ := (HR.o.chg HC3.o (HAS.o (fun e => by rw [e] at hjl; cases hjl))).at_ (by omega)
            obtain ⟨x, hx⟩ : ∃ x, items[j]'hjl = x := ⟨_, rfl⟩
            have HST : Hd (foldIts base (items.take (j + 1)) = stepIt (foldIts base (items.take j)) x) := hd (by rw [List.take_succ_eq_append_getElem hjl, hx, foldIts_snoc])
            have HFL : Hd ((foldIts base (items.take j)).length ≤ 1000000) := hd (by
              have h1 := take_len_le base items j
              have h2 : base.length ≤ ml.length := by rw [← HBASE.o]; split <;> simp
              rw [HN.o] at h1
              omega)
            have hcell : ∀ i u, i < 4 → (itEnc x)[i]? = some u → wr.cell? ⟨g, o + (j * 4 + i), none⟩ = some u := fun i u hi hv => hc _ _ ((itsEnc_at items j hjl i hi).trans (by rw [hx]; exact hv))
            obtain ⟨uid, ver, gone, text⟩ := x
            have k0 := hcell 0 _ (by omega) rfl
            have k1 := hcell 1 _ (by omega) rfl
            have k2 := hcell 2 _ (by omega) rfl
            have k3 := hcell 3 _ (by omega) rfl
            rw [← Nat.add_assoc] at k0 k1 k2 k3
            rw [Nat.add_zero] at k0
            clear hcell hc hx hjl
            cases gone with
            | true =>
              go_upto_region 24 with (fail)
              obtain ⟨wa, hwa⟩ : ∃ wa, wa = wr.alloc (.cells #[.string (bs uid), .int .i64 ver, .bool true, .string (bs text)] 41) := ⟨_, rfl⟩
              have HBa : Hd (Blk wa b 89 #[.pointer (some ⟨mb2, 0, none⟩), .int .i64 token, .bool more]) := hd (by rw [hwa]; exact HB3.o.alloc _)
              have HOa : Hd (OmEntItem wa S3 mb2 (foldIts base (items.take j))) := hd (by rw [hwa]; exact HO3.o.below ((Below.refl _ wr).alloc (Nat.le_refl _) _))
              have HPa : Hd (Blk wa w.heap.size 35 #[.int .i64 8, .int .i64 0, .int .i64 tok, .int .i64 version, .string (bs card), .int .i64 index, .bool mr, .slice (some ⟨g, o, none⟩) k c]) := hd (by rw [hwa]; exact HP3.o.alloc _)
              have HCa : Hd (Chg S w wa) := hd (by rw [hwa]; exact HC3.o.alloc _)
              have hbx : Blk wa wr.heap.size 41 #[.string (bs uid), .int .i64 ver, .bool true, .string (bs text)] := by rw [hwa]; exact Blk.new wr 41 _
              have hsza : wa.heap.size = wr.heap.size + 1 := by rw [hwa]; simp
              have y0 := HBa.o.at_ 0 rfl
              have x0 := hbx.at_ 0 rfl
              have x1 := hbx.at_ 1 rfl
              have x2 := hbx.at_ 2 rfl
              have x3 := hbx.at_ 3 rfl
              rw [← hwa]
              clear hwa hbx HB3 HO3 HP3 HC3 hb0 hb1 hp7 k0 k1 k2 k3
              go_still_tail 6, (by kernel_rfl)
              go_wp2_with fail
              refine (omdelEntItem_calls wa.drew S3 mb2 _ uid HOa.o.drew HFL.o).mono ?_
              rintro e w1 ⟨rfl, hO1, hC1⟩
              have hne3 : ¬ S3 b := fun h => (HS3.o b h).2.2.1 rfl
              have hnp3 : ¬ S3 w.heap.size := fun h => (HS3.o _ h).2.2.2 rfl
              have HB1 := hd (HBa.o.drew.chg hC1 hne3)
              have HP1 := hd (HPa.o.drew.chg hC1 hnp3)
              have HC1 : Hd (Chg S w w1) := hd (HCa.o.drew.trans hC1 (fun q hq => (HS3.o q hq).1))
              have HO1 : Hd (OmEntItem w1 (fun q => Plus S3 wa.drew.heap.size q ∧ q < w1.heap.size) mb2 (foldIts base (items.take (j + 1)))) := hd (by
                rw [HST.o]
                exact hO1.shrink)
              have hs1 : wa.heap.size ≤ w1.heap.size := hC1.size
              clear hO1 hC1 y0 x0 x1 x2 x3
              go_wp2
              go_roundw
              case rel =>
                refine ⟨j + 1, _, by go_num, by omega, HB1, HO1, hd (fun q hq => ?_), HP1, HC1⟩
                rcases hq with ⟨hq | hq, hq2⟩
                · obtain ⟨h1, h2, h3, h4⟩ := HS3.o q hq
                  exact ⟨h1, hq2, h3, h4⟩
                · have hq' : wa.heap.size ≤ q := hq
                  exact ⟨.inr (by omega), hq2, by omega, by omega⟩
              case measure => simp [intOf]; omega
            | false =>
              go_upto_region 25 with (fail)
              obtain ⟨wa, hwa⟩ : ∃ wa, wa = wr.alloc (.cells #[.string (bs uid), .int .i64 ver, .bool false, .string (bs text)] 41) := ⟨_, rfl⟩
              have HBa : Hd (Blk wa b 89 #[.pointer (some ⟨mb2, 0, none⟩), .int .i64 token, .bool more]) := hd (by rw [hwa]; exact HB3.o.alloc _)
              have HOa : Hd (OmEntItem wa S3 mb2 (foldIts base (items.take j))) := hd (by rw [hwa]; exact HO3.o.below ((Below.refl _ wr).alloc (Nat.le_refl _) _))
              have HPa : Hd (Blk wa w.heap.size 35 #[.int .i64 8, .int .i64 0, .int .i64 tok, .int .i64 version, .string (bs card), .int .i64 index, .bool mr, .slice (some ⟨g, o, none⟩) k c]) := hd (by rw [hwa]; exact HP3.o.alloc _)
              have HCa : Hd (Chg S w wa) := hd (by rw [hwa]; exact HC3.o.alloc _)
              have hbx : Blk wa wr.heap.size 41 #[.string (bs uid), .int .i64 ver, .bool false, .string (bs text)] := by rw [hwa]; exact Blk.new wr 41 _
              have hsza : wa.heap.size = wr.heap.size + 1 := by rw [hwa]; simp
              have y0 := HBa.o.at_ 0 rfl
              have x0 := hbx.at_ 0 rfl
              have x1 := hbx.at_ 1 rfl
              have x2 := hbx.at_ 2 rfl
              have x3 := hbx.at_ 3 rfl
              rw [← hwa]
              clear hwa hbx HB3 HO3 HP3 HC3 hb0 hb1 hp7 k0 k1 k2 k3
              go_still_tail 13, (by kernel_rfl)
              go_wp2_with fail
              refine (omputEntItem_calls wa.drew S3 mb2 _ uid ⟨uid, ver, false, text⟩ HOa.o.drew HFL.o (fun q hq => by have h1 := (HS3.o q hq).2.1; show q < wa.heap.size; omega)).mono ?_
              rintro e w1 ⟨rfl, hO1, hC1⟩
              have hne3 : ¬ S3 b := fun h => (HS3.o b h).2.2.1 rfl
              have hnp3 : ¬ S3 w.heap.size := fun h => (HS3.o _ h).2.2.2 rfl
              have HB1 := hd (HBa.o.drew.chg hC1 hne3)
              have HP1 := hd (HPa.o.drew.chg hC1 hnp3)
              have HC1 : Hd (Chg S w w1) := hd (HCa.o.drew.trans hC1 (fun q hq => (HS3.o q hq).1))
              have HO1 : Hd (OmEntItem w1 (fun q => Plus S3 wa.drew.heap.size q ∧ q < w1.heap.size) mb2 (foldIts base (items.take (j + 1)))) := hd (by
                rw [HST.o]
                exact hO1.shrink)
              have hs1 : wa.heap.size ≤ w1.heap.size := hC1.size
              clear hO1 hC1 y0 x0 x1 x2 x3
              go_wp2
              go_roundw
              case rel =>
                refine ⟨j + 1, _, by go_num, by omega, HB1, HO1, hd (fun q hq => ?_), HP1, HC1⟩
                rcases hq with ⟨hq | hq, hq2⟩
                · obtain ⟨h1, h2, h3, h4⟩ := HS3.o q hq
                  exact ⟨h1, hq2, h3, h4⟩
                · have hq' : wa.heap.size ≤ q := hq
                  exact ⟨.inr (by omega), hq2, by omega, by omega⟩
              case measure => simp [intOf]; omega
          · obtain rfl : j = k := by omega
            have hf1 := HB3.o.frozen 1
            have hf2 := HB3.o.frozen 2
            have hb2 := HB3.o.at_ 2 rfl
            have hp2 := HP3.o.at_ 2 rfl
            have hp6 := HP3.o.at_ 6 rfl
            have hnb : w.heap.size ≠ b := by omega
            have HTK : Hd (items.take j = items) := hd (List.take_of_length_le (by rw [HN.o]; exact Nat.le_refl _))
            go_wp2_with fail
            go_region
            go_wp2
            go_ret
            refine .inr ⟨rfl, HOK.o, ⟨mb2, ((HB3.o.set_ 1 _).set_ 2 _).drew, ?_, .inl hS⟩, ((HC3.o.setCell (.inl hS) _).setCell (.inl hS) _).drew⟩
            have ho := HO3.o
            rw [HTK.o] at ho
            exact (ho.chg (((Chg.refl (One b) wr).setCell (p := ⟨b, 1, none⟩) (.inl rfl) _).setCell (p := ⟨b, 2, none⟩) (.inl rfl) _).drew (fun q hq hb => (HS3.o q hq).2.2.1 hb)).mono (fun q hq => (HS3.o q hq).1)

/-- Fold, whatever comes. -/
theorem fold_calls (w : World) (S : Nat → Prop) (b : Nat) (s : St) (h : Rep w S b s.token s.more s.ml) (hSw : ∀ q, S q → q < w.heap.size) (asked : Int) (r : Rs) (items : List It) (A : Option Addr) (c : Nat)
    (hr : Rds w A items.length 4 (itsEnc items)) (hAS : items ≠ [] → ∀ q, Of A q → ¬ S q) (hl : s.ml.length + items.length ≤ 1000000) (hsz : ∀ x ∈ items, x.uid.length ≤ maxLen) :
    Calls Try.prog 21 #[.pointer (some ⟨b, 0, none⟩), .int .i64 asked, .agg (rsEnc r A items.length c).toArray] w fun e w' =>
      e = .returned (.int .i64 (foldSem s asked r items).1) ∧ Rep w' (Plus S w.heap.size) b (foldSem s asked r items).2.token (foldSem s asked r items).2.more (foldSem s asked r items).2.ml ∧ Chg S w w' := by
  have keep : ∀ w', Below w.heap.size w w' → Rep w' (Plus S w.heap.size) b s.token s.more s.ml ∧ Chg S w w' := fun w' hb => ⟨(h.below hb).mono (fun _ h => .inl h), Chg.of_below _ hb⟩
  by_cases h1 : r.kind ≠ 8 ∨ asked ≠ s.token
  · rw [fold_kind h1]
    exact (fold_no1 w S b s.token s.more s.ml h asked r A items.length c h1).mono fun e w' ⟨he, hb⟩ => ⟨he, keep w' hb⟩
  · have h2 : r.kind = 8 := Decidable.byContradiction fun hn => h1 (.inl hn)
    have h3 : asked = s.token := Decidable.byContradiction fun hn => h1 (.inr hn)
    by_cases h4 : r.err = 8
    · rw [fold_tok h2 h3 h4, h3]
      exact fold_all w S b s.token s.more s.ml h r A items.length c h2 h4
    · by_cases h5 : r.err = 0
      · by_cases h6 : r.token < asked
        · rw [fold_low h2 h3 h5 h6, h3]
          exact (fold_no3 w S b s.token s.more s.ml h r A items.length c h2 h5 (h3 ▸ h6)).mono fun e w' ⟨he, hb⟩ => ⟨he, keep w' hb⟩
        · have hmain := fold_items w S b s.token s.more s.ml h hSw r items A c h2 h5 (h3 ▸ h6) hr hAS hl hsz
          rw [← h3] at hmain
          refine hmain.mono fun e w' hh => ?_
          rcases hh with ⟨he, hbad, hb⟩ | ⟨he, hok, hrep, hchg⟩
          · rw [fold_bad h2 h3 h5 h6 hbad]
            exact ⟨he, keep w' hb⟩
          · rw [fold_ok h2 h3 h5 h6 hok]
            exact ⟨he, hrep, hchg⟩
      · rw [fold_err h2 h3 h4 h5, h3]
        exact (fold_no2 w S b s.token s.more s.ml h r A items.length c h2 h4 h5).mono fun e w' ⟨he, hb⟩ => ⟨he, keep w' hb⟩

end Go.Proofs.Ytbeckfnhgeclnaa
/-
  The copy's Get; the chapter's example.
-/
namespace Go.Proofs.Ytbeckfnhgeclnaa
open Go.RowKit Go.Lib

/-- What is at a key, as the copy's Get says it. -/
def getV (ml : ML It) (k : List UInt8) : Value := match getM ml k with | some v => .tuple #[.int .i64 v.ver, .string (bs v.card), .bool true] | none => .tuple #[.int .i64 0, .string ⟨#[]⟩, .bool false]

set_option maxHeartbeats 1000000 in
theorem rget_calls (w : World) (S : Nat → Prop) (b : Nat) (token : Int) (more : Bool) (ml : ML It) (k : List UInt8) (h : Rep w S b token more ml) (hl : ml.length ≤ 1000000) :
    Calls Try.prog 23 #[.pointer (some ⟨b, 0, none⟩), .string (bs k)] w fun e w' => e = .returned (getV ml k) ∧ Below w.heap.size w w' := by
  obtain ⟨mb, hb, hO, hS⟩ := h
  have h0 := hb.at_ 0 rfl
  have HO := hd hO
  clear hb hO
  unfold getV
  cases hg : getM ml k with
  | none =>
    have HC := hd (omgetEntItem_none w S mb ml k HO.o hl hg)
    simp only
    clear hg
    go_enter Try.func23, Try.ntmps23
    go_wp2_with fail
    refine HC.o.mono ?_
    rintro e w1 ⟨rfl, hbe⟩
    go_wp2
    go_quiet (fail)
    go_wp2
    go_ret3
    exact ⟨rfl, bdrewN (hbe.alloc hbe.size _) _⟩
  | some v =>
    have HC := hd (omgetEntItem_some w S mb ml k v HO.o hl hg)
    obtain ⟨uid, ver, gone, card⟩ := v
    simp only [itEnc] at HC ⊢
    clear hg
    go_enter Try.func23, Try.ntmps23
    go_wp2_with fail
    refine HC.o.mono ?_
    rintro e w1 ⟨rfl, hbe⟩
    go_wp2
    go_quiet (fail)
    go_wp2
    go_ret3
    exact ⟨rfl, bdrewN (hbe.alloc hbe.size _) _⟩

/-- A copy of a law's own: its blocks lie from w's size on, below B; nothing that came in has turned. -/
structure OwnR (B : Nat) (w wr : World) (b : Nat) (s : St) : Prop where
  ex : ∃ S : Nat → Prop, Rep wr S b s.token s.more s.ml ∧ ∀ q, S q → w.heap.size ≤ q ∧ q < B
  below : Below w.heap.size w wr
  le : B ≤ wr.heap.size
theorem OwnR.bel {B : Nat} {w wr w' : World} {b : Nat} {s : St} (h : OwnR B w wr b s) (hb : Below wr.heap.size wr w') : OwnR B w w' b s := by
  obtain ⟨⟨S, h1, h2⟩, h3, h4⟩ := h
  exact ⟨⟨S, h1.below hb, h2⟩, h3.trans (hb.mono h3.size), Nat.le_trans h4 hb.size⟩
theorem OwnR.lt {B : Nat} {w wr : World} {b : Nat} {s : St} (h : OwnR B w wr b s) : b < wr.heap.size := by
  obtain ⟨⟨S, h1, h2⟩, h3, h4⟩ := h
  exact h1.lt
theorem OwnR.rise {B : Nat} {w wr : World} {b : Nat} {s : St} (h : OwnR B w wr b s) : Rising s.ml := by
  obtain ⟨⟨S, h1, h2⟩, h3, h4⟩ := h
  exact h1.rise
theorem own_new {w wr w' : World} {b : Nat} (hw : Below w.heap.size w wr) (hr : Rep w' (fun q => wr.heap.size ≤ q) b 0 false []) (hb : Below wr.heap.size wr w') : OwnR w'.heap.size w w' b ⟨0, false, []⟩ := by
  have h := hr.shrink
  exact ⟨⟨_, h, fun q hq => ⟨Nat.le_trans hw.size hq.1, hq.2⟩⟩, hw.trans (hb.mono hw.size), Nat.le_refl _⟩
theorem own_fold {B : Nat} {w wr : World} {b : Nat} {s : St} (h : OwnR B w wr b s) (asked : Int) (r : Rs) (items : List It) (A : Option Addr) (c : Nat) (hr : Rds wr A items.length 4 (itsEnc items)) (hA : items ≠ [] → ∀ q, Of A q → q < w.heap.size ∨ B ≤ q) (hl : s.ml.length + items.length ≤ 1000000) (hsz : ∀ x ∈ items, x.uid.length ≤ maxLen) :
    Calls Try.prog 21 #[.pointer (some ⟨b, 0, none⟩), .int .i64 asked, .agg (rsEnc r A items.length c).toArray] wr fun e w' => e = .returned (.int .i64 (foldSem s asked r items).1) ∧ OwnR w'.heap.size w w' b (foldSem s asked r items).2 ∧ Chg (fun q => w.heap.size ≤ q ∧ q < B) wr w' := by
  obtain ⟨⟨S, h1, h2⟩, h3, h4⟩ := h
  refine (fold_calls wr S b s h1 (fun q hq => Nat.lt_of_lt_of_le (h2 q hq).2 h4) asked r items A c hr (fun hne q hq hs => ?_) hl hsz).mono fun e w' ⟨he, hrep, hc⟩ => ⟨he, ⟨⟨_, hrep.shrink, fun q hq => ?_⟩, ?_, Nat.le_refl _⟩, hc.mono h2⟩
  · have := h2 q hs
    rcases hA hne q hq with h | h <;> omega
  · obtain ⟨hq | hq, hq2⟩ := hq
    · exact ⟨(h2 q hq).1, hq2⟩
    · exact ⟨Nat.le_trans h3.size hq, hq2⟩
  · exact h3.trans (hc.below (fun q hq => (h2 q hq).1) h3.size)
theorem rds_lt {w : World} {A : Option Addr} {n k : Nat} {xs : List Value} (h : Rds w A n k xs) (hn : 0 < n) : ∀ q, Of A q → q < w.heap.size := fun q hq => by
  obtain ⟨g, o, rfl, hg, _⟩ := h.at_ hn
  rw [hq.some_]
  exact hg
theorem own_token {B : Nat} {w wr : World} {b : Nat} {s : St} (h : OwnR B w wr b s) : Calls Try.prog 25 #[.pointer (some ⟨b, 0, none⟩)] wr fun e w' => e = .returned (.int .i64 s.token) ∧ wr = w' := by
  obtain ⟨⟨S, h1, h2⟩, h3, h4⟩ := h
  exact rtoken_calls wr S b _ _ _ h1
theorem own_more {B : Nat} {w wr : World} {b : Nat} {s : St} (h : OwnR B w wr b s) : Calls Try.prog 26 #[.pointer (some ⟨b, 0, none⟩)] wr fun e w' => e = .returned (.bool s.more) ∧ wr = w' := by
  obtain ⟨⟨S, h1, h2⟩, h3, h4⟩ := h
  exact rmore_calls wr S b _ _ _ h1
theorem own_get {B : Nat} {w wr : World} {b : Nat} {s : St} (h : OwnR B w wr b s) (hl : s.ml.length ≤ 1000000) (k : List UInt8) : Calls Try.prog 23 #[.pointer (some ⟨b, 0, none⟩), .string (bs k)] wr fun e w' => e = .returned (getV s.ml k) ∧ Below wr.heap.size wr w' := by
  obtain ⟨⟨S, h1, h2⟩, h3, h4⟩ := h
  exact rget_calls wr S b _ _ _ k h1 hl
theorem own_cards {B : Nat} {w wr : World} {b : Nat} {s : St} (h : OwnR B w wr b s) (hl : s.ml.length ≤ 1000000) : Calls Try.prog 27 #[.pointer (some ⟨b, 0, none⟩)] wr fun e w' => ∃ A c, e = .returned (.slice A s.ml.length c) ∧ Rds w' A s.ml.length 4 (itsEnc (s.ml.map (·.2))) ∧ (∀ q, Of A q → wr.heap.size ≤ q) ∧ Below wr.heap.size wr w' := by
  obtain ⟨⟨S, h1, h2⟩, h3, h4⟩ := h
  exact (cards_calls wr S b _ _ _ h1 hl).mono fun e w' ⟨A, c, he, hr, hb⟩ => ⟨A, c, he, hr.rds, hr.of_sub, hb⟩

def x0 : It := ⟨[97], 6, false, [110, 97, 109, 101, 58, 65, 110, 110, 10]⟩
theorem first_fold : foldSem ⟨0, false, []⟩ 0 ⟨8, 0, 6, 0, [], 0, false⟩ [x0] = (0, ⟨6, false, [([97], x0)]⟩) := by
  rw [fold_ok rfl rfl rfl (by decide)]
  · rfl
  · intro k hk
    have : k = 0 := by simp at hk; omega
    subst this
    rfl

set_option maxHeartbeats 2000000 in
theorem first_calls (w : World) : Calls Try.prog 17 #[] w fun e w' => e = .returned (.bool true) ∧ Below w.heap.size w w' := by
  go_enter Try.func17, Try.ntmps17
  go_wp2_with fail
  refine (rnew_calls w (fun q => w.heap.size ≤ q) (fun _ h => h)).mono ?_
  rintro e w1 ⟨b, rfl, hbb, hrep, hbe⟩
  have HO := hd (own_new (Below.refl _ w) hrep hbe)
  clear hrep hbe hbb
  go_wp2_with fail
  have hr0 : Rds (w1.alloc (.cells #[.string ⟨#[97]⟩, .int .i64 6, .bool false, .string ⟨#[110, 97, 109, 101, 58, 65, 110, 110, 10]⟩] 41)) (some ⟨w1.heap.size, 0, none⟩) [x0].length 4 (itsEnc [x0]) :=
    ⟨rfl, fun _ => ⟨w1.heap.size, 0, rfl, by simp, fun j u hu => by rw [Nat.zero_add]; exact ((Blk.new w1 41 _).cell j).trans (by simpa [itsEnc, itEnc, x0, bs] using hu)⟩⟩
  have hF := own_fold (HO.o.bel ((Below.refl _ w1).alloc (Nat.le_refl _) _)) 0 ⟨8, 0, 6, 0, [], 0, false⟩ [x0] (some ⟨w1.heap.size, 0, none⟩) 1 hr0 (fun _ q hq => .inr (by rw [hq.some_]; exact Nat.le_refl _)) (by decide) (fun x hx => by rw [List.mem_singleton.1 hx]; decide)
  rw [first_fold] at hF
  refine hF.mono ?_
  rintro e w2 ⟨rfl, hO2, _⟩
  have HO2 := hd hO2
  clear hO2 hF hr0 HO
  go_wp2_with fail
  refine (own_get HO2.o (by decide) [97]).mono ?_
  rintro e w3 ⟨rfl, b3⟩
  have HO3 := hd (HO2.o.bel b3)
  rw [show getV [([97], x0)] [97] = .tuple #[.int .i64 6, .string (bs [110, 97, 109, 101, 58, 65, 110, 110, 10]), .bool true] from rfl]
  clear b3 HO2
  have hts : (bs [110, 97, 109, 101, 58, 65, 110, 110, 10]).toList = [110, 97, 109, 101, 58, 65, 110, 110, 10] := by rw [Lib.toList_data]; rfl
  go_wp2_with fail
  refine (own_token HO3.o).mono ?_
  rintro e w4 ⟨rfl, rfl⟩
  go_wp2_with fail
  refine (own_cards HO3.o (by decide)).mono ?_
  rintro e w5 ⟨A, c, rfl, _, _, b5⟩
  have HO5 := hd (HO3.o.bel b5)
  clear b5 HO3
  go_wp2_with fail
  refine (own_more HO5.o).mono ?_
  rintro e w6 ⟨rfl, rfl⟩
  go_wp2
  go_ret
  exact ⟨rfl, HO5.o.below⟩

end Go.Proofs.Ytbeckfnhgeclnaa
/-
  A copy that folds a collection's pages: plainly, and its contracts.
-/
namespace Go.Proofs.Ytbeckfnhgeclnaa
open Go.RowKit Go.Lib

/-- UIDs within bounds. -/
structure UidC (s : Cs) : Prop where
  ml : ∀ e ∈ s.ml, e.1.length ≤ 60
  log : ∀ x ∈ s.log, x.2.length ≤ 60
theorem UidC.step {s : Cs} (h : UidC s) (hok : s.Ok) (o : OpV) (T : Int) (ho : o.uid.length ≤ 60) : UidC (s.step o T).2 := by
  unfold Cs.step
  split
  · exact h
  · refine ⟨fun e he => ?_, fun x hx => ?_⟩
    · have he : e ∈ s.mls o T := he
      unfold Cs.mls at he
      split at he
      · exact h.ml e ((delM_spec o.uid hok.rise).2.2 e he)
      · rcases (putM_spec o.uid ⟨T, o.card⟩ hok.rise).2.2 e he with rfl | he
        · exact ho
        · exact h.ml e he
    · rcases pushL_sub hx with h2 | h2
      · exact h.log x h2
      · subst h2; exact ho
theorem since_uid {s : Cs} (h : UidC s) (hg : s.Good) (ht : s.Tok) {t : Int} {L : List It} {err : Int} (hs : SinceIs s t L err) : ∀ y ∈ L, y.uid.length ≤ 60 := by
  rcases hs with ⟨a, b, c⟩ | ⟨a, b, c, d⟩ | ⟨a, b, c, d⟩
  · intro y hy
    obtain ⟨e, he, rfl⟩ := List.mem_map.1 (c.1.mem_iff.1 hy)
    exact h.ml e he
  · intro y hy; rw [d] at hy; cases hy
  · rw [outP_eq _ _ _ ht.falls] at d
    intro y hy
    obtain ⟨x, hx, rfl, _⟩ := outR_mem s.ml t _ ht.falls y (d.1.mem_iff.1 hy)
    rw [itAt_uid]
    exact h.log x (List.mem_reverse.1 hx)
/-- The copy goes with the collection. -/
structure Goes (s : Cs) (st : St) : Prop where
  zero : 0 ≤ st.token
  le : st.token ≤ s.latest
  copy : st.token ≠ 0 → CopyOf s st.ml st.token
  rise : Rising st.ml
theorem goes_start {s : Cs} (h : s.Pos) : Goes s ⟨0, false, []⟩ := ⟨Int.le_refl _, by have := h.latest; show (0 : Int) ≤ s.latest; omega, fun h => absurd rfl h, List.Pairwise.nil⟩
theorem Goes.step {s : Cs} {st : St} (h : Goes s st) (hok : s.Ok) {T : Int} (hT : s.latest < T) (o : OpV) : Goes (s.step o T).2 st :=
  ⟨h.zero, Int.le_trans h.le (Cs.step_latest o (by omega)).1, fun h0 => step_copy hok (h.copy h0) (by have := h.le; omega) o, h.rise⟩
/-- A page, as an answer. -/
def pageRs (err tn : Int) (mo : Bool) : Rs := ⟨8, err, tn, 0, [], 0, mo⟩
/-- What folding a page does. -/
structure Folded (s : Cs) (st st' : St) (rr ee : Int) : Prop where
  res : rr = 0
  goes : Goes s st'
  err : ee ≠ 0 → ee = 8 ∧ st.token < s.horizon
  done : ee = 0 → st'.more = false → st'.token = s.latest ∧ st'.ml.map (·.2) = liveL s.ml
theorem fold_page {s : Cs} {t : Int} {k : Nat} (hr : RunC s t k) {st : St} (hg : Goes s st) {L : List It} {err : Int} (hs : SinceIs s st.token L err) (most : Int) :
    Folded s st (foldSem st st.token (pageRs err (pageR L st.token most s.latest err).2.1 (pageR L st.token most s.latest err).2.2) (pageR L st.token most s.latest err).1).2 (foldSem st st.token (pageRs err (pageR L st.token most s.latest err).2.1 (pageR L st.token most s.latest err).2.2) (pageR L st.token most s.latest err).1).1 err ∧
    (err = 0 → (foldSem st st.token (pageRs err (pageR L st.token most s.latest err).2.1 (pageR L st.token most s.latest err).2.2) (pageR L st.token most s.latest err).1).2.more = (pageR L st.token most s.latest err).2.2) := by
  by_cases he : err = 0
  · subst he
    by_cases h0 : st.token = 0
    · obtain ⟨tk, mr, ml⟩ := st
      simp only at h0 hs ⊢
      subst h0
      obtain ⟨_, hso⟩ := since_zero_is hs
      have hu : Uniq L := (hso.1.pairwise_iff (R := fun x y : It => x.uid ≠ y.uid) (fun h e => h e.symm)).2 (live_apart hr.good.ok.rise)
      have hok : okIts 0 L := (okIts_iff 0 L).2 ⟨fun x hx => ⟨by
        obtain ⟨e, he, rfl⟩ := List.mem_map.1 (hso.1.mem_iff.1 hx)
        exact hr.pos.ml e he, .inl rfl⟩, hu⟩
      have hp := hr.pos.latest
      rw [pageR_zero]
      rw [fold_ok rfl rfl rfl (show ¬ s.latest < 0 by omega) hok]
      have hf := fold_live hr.good.ok.rise hso
      have hri : Rising (foldIts ([] : ML It) L) := foldIts_rise List.Pairwise.nil L
      refine ⟨⟨rfl, ⟨by show (0 : Int) ≤ s.latest; omega, Int.le_refl _, fun _ => .inr fun u _ => hf u, hri⟩, fun h => absurd rfl h, fun _ _ => ⟨rfl, fits_live hr.good.ok.rise hri hf⟩⟩, fun _ => rfl⟩
    · have h1 : 1 ≤ st.token := by have := hg.zero; omega
      rw [pageR_ok]
      obtain ⟨hw, _, _⟩ := since_whole hr.good hr.tok hs h0 rfl
      obtain ⟨hp, hup, hend⟩ := page_next hr h1 hg.le hg.rise (hg.copy h0) hs most
      obtain ⟨R, hR⟩ : ∃ R, pageP L st.token most s.latest = R := ⟨_, rfl⟩
      rw [hR] at hp hup hend ⊢
      obtain ⟨pg, tn, mo⟩ := R
      simp only at hp hup hend ⊢
      have hok : okIts st.token pg := (okIts_iff _ _).2 ⟨fun x hx => by
        have := (hw.last x (hp.sub x hx)).new
        exact ⟨by omega, .inr this⟩, hp.uniq⟩
      rw [fold_ok rfl rfl rfl (show ¬ tn < st.token by have := hp.le; omega) hok, if_neg h0]
      have hle := hp.le
      refine ⟨⟨rfl, ⟨by show (0 : Int) ≤ tn; omega, hp.lelatest, fun _ => .inr hup, foldIts_rise hg.rise pg⟩, fun h => absurd rfl h, fun _ hm => ⟨hp.last hm, hend hm⟩⟩, fun _ => rfl⟩
  · obtain ⟨rfl, hlt⟩ := since_err hs he hg.le
    rw [fold_tok rfl rfl rfl]
    exact ⟨⟨rfl, goes_start hr.pos, fun _ => ⟨rfl, hlt⟩, fun h => absurd h he⟩, fun h => absurd h he⟩

/-- A collection and a copy, a law's own, apart. -/
structure CopyC (w wr : World) (b r : Nat) (s : Cs) (st : St) : Prop where
  ex : ∃ S T : Nat → Prop, ColR wr S b s ∧ Rep wr T r st.token st.more st.ml ∧ (∀ q, S q → ¬ T q) ∧ (∀ q, S q → w.heap.size ≤ q ∧ q < wr.heap.size) ∧ (∀ q, T q → w.heap.size ≤ q ∧ q < wr.heap.size)
  below : Below w.heap.size w wr
  ok : s.Ok
  uid : ∀ x ∈ s.log, x.2.length ≤ maxLen
theorem CopyC.bel {w wr w' : World} {b r : Nat} {s : Cs} {st : St} (h : CopyC w wr b r s st) (hb : Below wr.heap.size wr w') : CopyC w w' b r s st := by
  obtain ⟨⟨S, T, h1, h2, h3, h4, h5⟩, h6, h7, h8⟩ := h
  have hs := hb.size
  exact ⟨⟨S, T, h1.below hb, h2.below hb, h3, fun q hq => ⟨(h4 q hq).1, by have := (h4 q hq).2; omega⟩, fun q hq => ⟨(h5 q hq).1, by have := (h5 q hq).2; omega⟩⟩, h6.trans (hb.mono h6.size), h7, h8⟩
theorem CopyC.own {w wr : World} {b r : Nat} {s : Cs} {st : St} (h : CopyC w wr b r s st) : OwnC wr.heap.size w wr b s := by
  obtain ⟨⟨S, T, h1, h2, h3, h4, h5⟩, h6, h7, h8⟩ := h
  exact ⟨⟨S, h1, h4⟩, h6, Nat.le_refl _, h7, h8⟩
theorem CopyC.rep {w wr : World} {b r : Nat} {s : Cs} {st : St} (h : CopyC w wr b r s st) : OwnR wr.heap.size w wr r st := by
  obtain ⟨⟨S, T, h1, h2, h3, h4, h5⟩, h6, h7, h8⟩ := h
  exact ⟨⟨T, h2, h5⟩, h6, Nat.le_refl _⟩
theorem copyc_new {B : Nat} {w wr : World} {b : Nat} {s : Cs} (h : OwnC B w wr b s) :
    Calls Try.prog 19 #[] wr fun e w' => ∃ r, e = .returned (.pointer (some ⟨r, 0, none⟩)) ∧ CopyC w w' b r s ⟨0, false, []⟩ := by
  obtain ⟨⟨S, h1, h2⟩, h3, h4, h5, h6⟩ := h
  refine (rnew_calls wr (fun q => wr.heap.size ≤ q) (fun _ h => h)).mono fun e w' ⟨r, he, hrr, hrep, hb⟩ => ⟨r, he, ⟨⟨S, _, h1.below hb, hrep.shrink, fun q hq ht => ?_, fun q hq => ?_, fun q hq => ?_⟩, h3.trans (hb.mono h3.size), h5, h6⟩⟩
  · have := h2 q hq; have h9 : wr.heap.size ≤ q := ht.1; omega
  · have := h2 q hq; have := hb.size; exact ⟨by omega, by omega⟩
  · exact ⟨Nat.le_trans h3.size hq.1, hq.2⟩
theorem copyc_apply {w wr : World} {b r : Nat} {s : Cs} {st : St} (h : CopyC w wr b r s st) (o : OpV) (t : Int) (hl : s.ml.length < 1000000) (hlg : s.log.length < 1000000) (hby : bytesM s.ml ≤ 1000000000000) (hcl : o.card.length ≤ 1000000000000) (hu : o.uid.length ≤ maxLen) :
    Calls Try.prog 44 #[.pointer (some ⟨b, 0, none⟩), .agg (opEnc o).toArray, .int .i64 t] wr fun e w' => e = .returned (.bool (s.step o t).1) ∧ CopyC w w' b r (s.step o t).2 st := by
  obtain ⟨⟨S, T, h1, h2, h3, h4, h5⟩, h6, h7, h8⟩ := h
  refine (apply_calls wr S b s o t h1 h7 (fun q hq => (h4 q hq).2) hl hlg hby hcl).mono fun e w' ⟨he, hrep, hc⟩ => ⟨he, ⟨_, T, hrep.shrink, h2.chg hc (fun q hq hs => h3 q hs hq), fun q hq ht => ?_, fun q hq => ?_, fun q hq => ?_⟩, ?_, Cs.step_ok h7 o t, step_uid h8 hu⟩
  · obtain ⟨hq | hq, hq2⟩ := hq
    · exact h3 q hq ht
    · have := h5 q ht; have : wr.heap.size ≤ q := hq; omega
  · obtain ⟨hq | hq, hq2⟩ := hq
    · exact ⟨(h4 q hq).1, hq2⟩
    · exact ⟨Nat.le_trans h6.size hq, hq2⟩
  · have := h5 q hq; have := hc.size; exact ⟨by omega, by omega⟩
  · exact h6.trans (hc.below (fun q hq => (h4 q hq).1) h6.size)
theorem copyc_fold {w wr : World} {b r : Nat} {s : Cs} {st : St} {N : Nat} (h : CopyC w wr b r s st) (asked : Int) (rs : Rs) (items : List It) (A : Option Addr) (c : Nat) (hr : Rds wr A items.length 4 (itsEnc items)) (hA : ∀ q, Of A q → N ≤ q) (hT : ∃ S T : Nat → Prop, ColR wr S b s ∧ Rep wr T r st.token st.more st.ml ∧ (∀ q, S q → ¬ T q) ∧ (∀ q, S q → w.heap.size ≤ q ∧ q < N) ∧ (∀ q, T q → w.heap.size ≤ q ∧ q < N)) (hN : N ≤ wr.heap.size) (hl : st.ml.length + items.length ≤ 1000000) (hsz : ∀ x ∈ items, x.uid.length ≤ maxLen) :
    Calls Try.prog 21 #[.pointer (some ⟨r, 0, none⟩), .int .i64 asked, .agg (rsEnc rs A items.length c).toArray] wr fun e w' => e = .returned (.int .i64 (foldSem st asked rs items).1) ∧ CopyC w w' b r s (foldSem st asked rs items).2 := by
  have h6 := h.below
  have h7 := h.ok
  have h8 := h.uid
  obtain ⟨S, T, h1, h2, h3, h4, h5⟩ := hT
  refine (fold_calls wr T r st h2 (fun q hq => by have := h5 q hq; omega) asked rs items A c hr (fun _ q hq ht => by have := hA q hq; have := h5 q ht; omega) hl hsz).mono fun e w' ⟨he, hrep, hc⟩ => ⟨he, ⟨⟨S, _, h1.chg hc (fun q hq ht => h3 q hq ht), hrep.shrink, fun q hq ht => ?_, fun q hq => ?_, fun q hq => ?_⟩, ?_, h7, h8⟩⟩
  · obtain ⟨ht | ht, _⟩ := ht
    · exact h3 q hq ht
    · have := h4 q hq; have : wr.heap.size ≤ q := ht; omega
  · have := h4 q hq; have := hc.size; exact ⟨by omega, by omega⟩
  · obtain ⟨hq | hq, hq2⟩ := hq
    · exact ⟨(h5 q hq).1, hq2⟩
    · exact ⟨Nat.le_trans h6.size hq, hq2⟩
  · exact h6.trans (hc.below (fun q hq => (h5 q hq).1) h6.size)

end Go.Proofs.Ytbeckfnhgeclnaa
/-
  Steps that came in, as lists.
-/
namespace Go.Proofs.Ytbeckfnhgeclnaa
open Go.ChangeShapes Go.WideShapes Go.ChangeAt Go.RowKit

theorem cc_stp : Try.prog.cellsOf 84 = 6 := by kernel_rfl
/-- A step: a write, whether a page is asked for behind it. -/
abbrev StepV := OpV × Bool
def stepE (x : StepV) : List Value := opEnc x.1 ++ [.bool x.2]
theorem stepE_len (x : StepV) : (stepE x).length = 6 := rfl
def stepsE (l : List StepV) : List Value := l.flatMap stepE
theorem stepsE_at (l : List StepV) (i : Nat) (h : i < l.length) (j : Nat) (hj : j < 6) : (stepsE l)[i * 6 + j]? = (stepE l[i])[j]? := flat_at stepE 6 stepE_len l i h j hj
section
variable {H : Type} {enc : TypeId × Value → H} {W : World} {base : Nat} {spare : Nat → Bool} {held : Bool}
set_option maxRecDepth 100000 in
theorem cdec_stp (fuel : Nat) (cs : List Value) (x : DataW H × List MemPlace) (hx : DataW.trod enc Try.prog W base spare held fuel 84 cs = some x) (hl : cs.length = 6) :
    ∃ r : StepV, cs = stepE r ∧ OpOk r.1 := by
  obtain ⟨xs, m, _, _, _, hxl, hf⟩ := DataW.trod_struct Try.underlying84 hx
  match cs, hl with
  | [c0, c1, c2, c3, c4, c5], _ =>
    have f0 := hf 0 _ rfl
    have f1 := hf 1 _ rfl
    change DataW.trod enc Try.prog W base spare held m 65 (List.take (Try.prog.cellsOf 65) (List.drop 0 [c0, c1, c2, c3, c4, c5])) = xs[0]? at f0
    change DataW.trod enc Try.prog W base spare held m 4 (List.take (Try.prog.cellsOf 4) (List.drop 5 [c0, c1, c2, c3, c4, c5])) = xs[1]? at f1
    simp only [cc_op, cc_bool, List.drop_zero, List.take_succ_cons, List.take_zero, List.drop_succ_cons] at f0 f1
    simp only [List.size_toArray, List.length_cons, List.length_nil] at hxl
    rw [List.getElem?_eq_getElem (by omega)] at f0 f1
    obtain ⟨n1, e1, _⟩ := DataW.trod_bool Try.underlying4 f1
    obtain ⟨o, e0, ho⟩ := cdec_op m [c0, c1, c2, c3, c4] _ f0 rfl
    simp only [List.cons.injEq, and_true] at e1
    subst e1
    exact ⟨⟨o, n1⟩, by rw [show [c0, c1, c2, c3, c4, Value.bool n1] = [c0, c1, c2, c3, c4] ++ [.bool n1] from rfl, e0]; rfl, ho⟩
theorem rds_of_steps {t : TypeId} {A : Option Addr} {n c : Nat} {d : DataW H} {p : List MemPlace} (ht : Try.prog.underlying t = some (.slice 84)) (h : DataW.Trod enc Try.prog W base spare held t (.slice A n c) d p) :
    ∃ l : List StepV, Rds W A n 6 (stepsE l) ∧ n = l.length ∧ n ≤ maxLen ∧ (∀ r ∈ l, OpOk r.1) :=
  rds_of_slice (R := StepV) stepE 6 stepE_len (by decide) (fun r => OpOk r.1) ht cc_stp (fun fuel cs x hx hl => cdec_stp fuel cs x hx hl) h
end

end Go.Proofs.Ytbeckfnhgeclnaa
/-
  ReplicaKeeps, as a call: it returns true, whatever the answers.
-/
namespace Go.Proofs.Ytbeckfnhgeclnaa
open Go.RowKit Go.Lib

theorem fold_said (s : St) (asked : Int) (r : Rs) (l : List It) :
    ((foldSem s asked r l).1 ≠ 0 ∧ ((foldSem s asked r l).1 = 10 ∨ (foldSem s asked r l).1 = 1) ∧ (foldSem s asked r l).2 = s) ∨
    ((foldSem s asked r l).1 = 0 ∧ r.err = 8 ∧ (foldSem s asked r l).2 = ⟨0, false, []⟩) ∨
    ((foldSem s asked r l).1 = 0 ∧ r.err ≠ 8 ∧ asked = s.token ∧ (foldSem s asked r l).2.token = r.token ∧ ¬ r.token < s.token ∧ (foldSem s asked r l).2.more = r.more) := by
  by_cases h1 : r.kind ≠ 8 ∨ asked ≠ s.token
  · rw [fold_kind h1]; exact .inl ⟨(by decide : (10 : Int) ≠ 0), .inl rfl, rfl⟩
  · have h2 : r.kind = 8 := Decidable.byContradiction fun hn => h1 (.inl hn)
    have h3 : asked = s.token := Decidable.byContradiction fun hn => h1 (.inr hn)
    by_cases h4 : r.err = 8
    · rw [fold_tok h2 h3 h4]; exact .inr (.inl ⟨rfl, h4, rfl⟩)
    · by_cases h5 : r.err = 0
      · by_cases h6 : r.token < asked
        · rw [fold_low h2 h3 h5 h6]; exact .inl ⟨(by decide : (1 : Int) ≠ 0), .inr rfl, rfl⟩
        · by_cases h7 : okIts asked l
          · rw [fold_ok h2 h3 h5 h6 h7]; exact .inr (.inr ⟨rfl, h4, h3, rfl, h3 ▸ h6, rfl⟩)
          · rw [fold_bad h2 h3 h5 h6 h7]; exact .inl ⟨(by decide : (1 : Int) ≠ 0), .inr rfl, rfl⟩
      · rw [fold_err h2 h3 h4 h5]; exact .inl ⟨(by decide : (10 : Int) ≠ 0), .inl rfl, rfl⟩
theorem fold_len (s : St) (asked : Int) (r : Rs) (l : List It) : (foldSem s asked r l).2.ml.length ≤ s.ml.length + l.length := by
  by_cases h1 : r.kind ≠ 8 ∨ asked ≠ s.token
  · rw [fold_kind h1]; simp
  · have h2 : r.kind = 8 := Decidable.byContradiction fun hn => h1 (.inl hn)
    have h3 : asked = s.token := Decidable.byContradiction fun hn => h1 (.inr hn)
    by_cases h4 : r.err = 8
    · rw [fold_tok h2 h3 h4]; simp
    · by_cases h5 : r.err = 0
      · by_cases h6 : r.token < asked
        · rw [fold_low h2 h3 h5 h6]; simp
        · by_cases h7 : okIts asked l
          · rw [fold_ok h2 h3 h5 h6 h7]
            have := foldIts_len (if asked = 0 then [] else s.ml) l
            simp only
            split at this <;> simp_all <;> omega
          · rw [fold_bad h2 h3 h5 h6 h7]; simp
      · rw [fold_err h2 h3 h4 h5]; simp

theorem lightA_len {l : List Ac} (h : lightA l = true) : l.length ≤ 40 := by
  simp [lightA] at h
  omega
theorem lightA_each {l : List Ac} (h : lightA l = true) : ∀ x ∈ l, x.items.length ≤ 120 := fun x hx => by
  simp only [lightA, Bool.and_eq_true, List.all_eq_true] at h
  have := h.2 x hx
  simp only [lightR, Bool.and_eq_true, Bool.not_eq_true', Bool.or_eq_false_iff, decide_eq_false_iff_not] at this
  omega

set_option maxRecDepth 100000 in
set_option maxHeartbeats 8000000 in
theorem keeps_calls (w : World) (A : Option Addr) (n c : Nat) (l : List Ac) (hr : Rds w A n 9 (acsEnc l)) (hn : n = l.length) (hm : n ≤ maxLen) (hok : ∀ x ∈ l, RsOk w x.rs x.A x.items) :
    Calls Try.prog 4 #[.slice A n c] w fun e w' => e = .returned (.bool true) ∧ Below w.heap.size w w' := by
  have HN := hd hn
  have HOK := hd hok
  have HR := hd hr
  cases hlt : lightA l with
  | false =>
    have HLI := hd (fun w' (hb : Below w.heap.size w w') => light_calls w' A n c l (hr.below hb) hn hm (fun x hx => (hok x hx).below hb))
    rw [hlt] at HLI
    unfold maxLen at hm
    clear hn hok hr hlt
    go_enter Try.func4, Try.ntmps4
    go_wp2_with fail
    refine (first_calls w).mono ?_
    rintro e w1 ⟨rfl, b1⟩
    go_wp2_with fail
    refine (HLI.o w1 b1).mono ?_
    rintro e w2 ⟨rfl, b2⟩
    go_wp2_with fail
    refine (first_calls w2).mono ?_
    rintro e w3 ⟨rfl, b3⟩
    go_wp2
    go_ret
    exact ⟨rfl, b1.trans ((b2.mono b1.size).trans (b3.mono (by have := b1.size; have := b2.size; omega)))⟩
  | true =>
    have HLI := hd (fun w' (hb : Below w.heap.size w w') => light_calls w' A n c l (hr.below hb) hn hm (fun x hx => (hok x hx).below hb))
    rw [hlt] at HLI
    have hn40 : n ≤ 40 := by rw [hn]; exact lightA_len hlt
    have HE := hd (lightA_each hlt)
    unfold maxLen at hm
    clear hn hok hr hlt
    go_enter Try.func4, Try.ntmps4
    go_wp2_with fail
    refine (first_calls w).mono ?_
    rintro e w1 ⟨rfl, b1⟩
    go_wp2_with fail
    refine (HLI.o w1 b1).mono ?_
    rintro e w2 ⟨rfl, b2⟩
    have b12 : Below w.heap.size w w2 := b1.trans (b2.mono b1.size)
    clear b1 b2
    go_wp2_with fail
    refine (rnew_calls w2 (fun q => w2.heap.size ≤ q) (fun _ h => h)).mono ?_
    rintro e w3 ⟨b, rfl, hbb, hrep, hbe⟩
    have HO := hd (own_new b12 hrep hbe)
    clear hrep hbe hbb b12
    go_wp2_with fail
    go_loopw [4] (fun i wr => ∃ (k B : Nat) (s : St), i = .int .i64 k ∧ k ≤ n ∧ s.ml.length ≤ 120 * k ∧ Hd (OwnR B w wr b s)) (fun i _ => n - (intOf i).toNat)
    case atStart => exact ⟨0, _, ⟨0, false, []⟩, rfl, Nat.zero_le _, Nat.le_refl _, HO⟩
    case round =>
      clear HO
      obtain ⟨k, B, s, rfl, hk, hsl, HO⟩ := hrel
      have hki : (0 : Int) ≤ (k : Int) := by omega
      by_cases hlt : k < n
      · have hlti : (k : Int) < (n : Int) := by omega
        have hkl : k < l.length := by rw [← HN.o]; exact hlt
        obtain ⟨g, o, rfl, hg, hc⟩ := HR.o.at_ (by omega)
        obtain ⟨x, hx⟩ : ∃ x, l[k]'hkl = x := ⟨_, rfl⟩
        have HXOK := hd (HOK.o x (by rw [← hx]; exact List.getElem_mem hkl))
        have HX120 := hd (HE.o x (by rw [← hx]; exact List.getElem_mem hkl))
        have hcell : ∀ j u, j < 9 → (acEnc x)[j]? = some u → w.cell? ⟨g, o + (k * 9 + j), none⟩ = some u := fun j u hj hv => hc _ _ ((flat_at acEnc 9 acEnc_len l k hkl j hj).trans (by rw [hx]; exact hv))
        go_wp2_with fail
        refine (own_token HO.o).mono ?_
        rintro e w4 ⟨rfl, rfl⟩
        go_wp2_with fail
        refine (own_more HO.o).mono ?_
        rintro e w4 ⟨rfl, rfl⟩
        go_wp2_with fail
        refine (own_cards HO.o (by omega)).mono ?_
        rintro e w5 ⟨A5, c5, rfl, hr5, ha5, b5⟩
        have HO5 := hd (HO.o.bel b5)
        have HR5 := hd hr5
        have HA5 := hd ha5
        have hBle := HO.o.le
        have hcell5 : ∀ j u, j < 9 → (acEnc x)[j]? = some u → w5.cell? ⟨g, o + (k * 9 + j), none⟩ = some u := fun j u hj hv => (HO5.o.below.cell (p := ⟨g, o + (k * 9 + j), none⟩) hg).trans (hcell j u hj hv)
        obtain ⟨asked, rs, A2, c2, items⟩ := x
        have HF := hd (own_fold (HO5.o.bel (bdrEntItem (Below.refl _ _))) asked rs items A2 c2 ((HXOK.o.below (bdrEntItem HO5.o.below)).rds) (fun hne q hq => .inl (rds_lt HXOK.o.rds (List.length_pos_iff.2 hne) q hq)) (by have := HX120.o; simp only at this; omega) (fun y hy => (HXOK.o.each y hy).1))
        have hsaid := fold_said s asked rs items
        have hfl := fold_len s asked rs items
        have h120 := HX120.o
        simp only at h120
        obtain ⟨m, hmm⟩ : ∃ m, items.length = m := ⟨_, rfl⟩
        obtain ⟨er, ht1⟩ : ∃ er, (foldSem s asked rs items).1 = er := ⟨_, rfl⟩
        obtain ⟨s', ht2⟩ : ∃ s', (foldSem s asked rs items).2 = s' := ⟨_, rfl⟩
        rw [ht1, ht2] at HF hsaid
        rw [ht2] at hfl
        have HCELL := hd (fun (w' : World) (hb : Below w.heap.size w w') (j : Nat) (u : Value) (hj : j < 9) (hv : (acEnc ⟨asked, rs, A2, c2, items⟩)[j]? = some u) => (hb.cell (p := ⟨g, o + (k * 9 + j), none⟩) hg).trans (hcell j u hj hv))
        obtain ⟨kind, err, tok, version, card, index, mr⟩ := rs
        have k0 := hcell5 0 _ (by omega) rfl
        have k1 := hcell5 1 _ (by omega) rfl
        have k2 := hcell5 2 _ (by omega) rfl
        have k3 := hcell5 3 _ (by omega) rfl
        have k4 := hcell5 4 _ (by omega) rfl
        have k5 := hcell5 5 _ (by omega) rfl
        have k6 := hcell5 6 _ (by omega) rfl
        have k7 := hcell5 7 _ (by omega) rfl
        have k8 := hcell5 8 _ (by omega) rfl
        rw [← Nat.add_assoc] at k0 k1 k2 k3 k4 k5 k6 k7 k8
        rw [Nat.add_zero] at k0
        simp only [hmm] at k8 HF
        simp only [rsEnc] at HF
        rw [hmm] at hfl h120
        simp only at hsaid
        have hnl : s'.ml.length ≤ 120 * (k + 1) := by omega
        have HNL := hd hnl
        clear hcell5 hcell hc hx hmm ht1 ht2 hkl hr5 b5 ha5
        go_wp2_with fail
        go_still_tail 11, (by kernel_rfl)
        go_wp2_with fail
        refine HF.o.mono ?_
        rintro e w6 ⟨rfl, hO6, hc6⟩
        have HR6 := hd ((show Rds w5.drew A5 _ 4 _ from ⟨HR5.o.len, HR5.o.at_⟩).chg hc6 (fun q hq hb => by have := HA5.o q hq; omega))
        have HO6 := hd hO6
        have b6 := hO6.below
        have HC6 := hd (HCELL.o w6 b6)
        clear hc6 hO6 b6 k0 k1 k2 k3 k4 k5 k6 k7 k8
        rcases hsaid with ⟨h1, h2, h3⟩ | ⟨h1, h2, h3⟩ | ⟨h1, h2, h3, h4, h5, h6⟩
        · subst h3
          rcases h2 with h2 | h2
          all_goals
            subst h2
            have f3 : (s'.token != s'.token) = false := by simp
            have f4 : (s'.more != s'.more) = false := by simp
            clear h1
            go_wp2_with fail
            refine (own_token HO6.o).mono ?_
            rintro e w7 ⟨rfl, rfl⟩
            go_wp2_with fail
            refine (own_more HO6.o).mono ?_
            rintro e w7 ⟨rfl, rfl⟩
            go_wp2_with fail
            refine (own_cards HO6.o (by omega)).mono ?_
            rintro e w8 ⟨A8, c8, rfl, hr8, ha8, b8⟩
            have HO8 := hd (HO6.o.bel b8)
            go_wp2_with fail
            refine (its_calls w8 A8 A5 _ _ c8 c5 (s'.ml.map (·.2)) (s'.ml.map (·.2)) (by simp) (by simp) hr8 (HR6.o.below b8) (by omega) (by omega)).mono ?_
            rintro e w9 ⟨rfl, b9⟩
            rw [decide_eq_true (rfl : s'.ml.map (·.2) = s'.ml.map (·.2))]
            have HO9 := hd (HO8.o.bel b9)
            clear hr8 ha8 b8 b9
            go_wp2
            go_roundw
            case rel => exact ⟨k + 1, _, s', by go_num, by omega, HNL.o, HO9⟩
            case measure => simp [intOf]; omega
        · subst h1 h3
          have e2 := HC6.o 2 _ (by omega) rfl
          rw [← Nat.add_assoc] at e2
          have f8 : (err == 8) = true := by simpa using h2
          clear h2
          go_wp2_with fail
          refine (own_token HO6.o).mono ?_
          rintro e w7 ⟨rfl, rfl⟩
          go_wp2_with fail
          refine (own_more HO6.o).mono ?_
          rintro e w7 ⟨rfl, rfl⟩
          go_wp2_with fail
          refine (own_cards HO6.o (by simp)).mono ?_
          rintro e w8 ⟨A8, c8, rfl, hr8, ha8, b8⟩
          have HO8 := hd (HO6.o.bel b8)
          clear hr8 ha8 b8
          go_wp2
          go_roundw
          case rel => exact ⟨k + 1, _, _, by go_num, by omega, HNL.o, HO8⟩
          case measure => simp [intOf]; omega
        · subst h1 h3
          have e0 := HC6.o 0 _ (by omega) rfl
          have e2 := HC6.o 2 _ (by omega) rfl
          have e3 := HC6.o 3 _ (by omega) rfl
          have e7 := HC6.o 7 _ (by omega) rfl
          rw [← Nat.add_assoc] at e0 e2 e3 e7
          rw [Nat.add_zero] at e0
          have f8 : (err == 8) = false := by simpa using h2
          have f1 : (s.token != s.token) = false := by simp
          have f2 : (tok != tok) = false := by simp
          have f3 : decide (tok < s.token) = false := by simpa using h5
          have f4 : (mr != mr) = false := by simp
          have HT := hd (fun (q : Nat) => (own_token (HO6.o.bel (bdrewN (Below.refl _ _) q))))
          have HM := hd (fun (q : Nat) => (own_more (HO6.o.bel (bdrewN (Below.refl _ _) q))))
          rw [h4] at HT
          rw [h6] at HM
          clear h2 h4 h5 h6
          go_wp2_with fail
          go_quiet (first | (go_at_call 25; exact q1 (HT.o _)) | (go_at_call 25; exact q2 (HT.o _)) | (go_at_call 26; exact q1 (HM.o _)) | (go_at_call 26; exact q2 (HM.o _)))
          go_wp2
          go_roundw
          case rel => exact ⟨k + 1, _, s', by go_num, by omega, HNL.o, hd (HO6.o.bel (bdrewN (Below.refl _ _) nq))⟩
          case measure => simp [intOf]; omega
      · obtain rfl : k = n := by omega
        go_wp2
        go_ret
        exact ⟨rfl, HO.o.below⟩

end Go.Proofs.Ytbeckfnhgeclnaa
/-
  ReplicaCol, as a call: it returns true, whatever the steps.
-/
namespace Go.Proofs.Ytbeckfnhgeclnaa
open Go.RowKit Go.Lib

theorem copyc_fold2 {w wr w5 : World} {b r : Nat} {s : Cs} {st : St} (h : CopyC w wr b r s st) (hb : Below wr.heap.size wr w5) (asked : Int) (rs : Rs) (items : List It) (A : Option Addr) (c : Nat) (hr : Rds w5 A items.length 4 (itsEnc items)) (hA : ∀ q, Of A q → wr.heap.size ≤ q) (hl : st.ml.length + items.length ≤ 1000000) (hsz : ∀ x ∈ items, x.uid.length ≤ maxLen) :
    Calls Try.prog 21 #[.pointer (some ⟨r, 0, none⟩), .int .i64 asked, .agg (rsEnc rs A items.length c).toArray] w5 fun e w' => e = .returned (.int .i64 (foldSem st asked rs items).1) ∧ CopyC w w' b r s (foldSem st asked rs items).2 := by
  obtain ⟨S, T, h1, h2, h3, h4, h5⟩ := h.ex
  exact copyc_fold (h.bel hb) asked rs items A c hr hA ⟨S, T, h1.below hb, h2.below hb, h3, h4, h5⟩ hb.size hl hsz
theorem pageR_sub (l : List It) (tok most la err : Int) : ∀ y ∈ (pageR l tok most la err).1, y ∈ l := by
  intro y hy
  unfold pageR at hy
  split at hy
  · unfold pageP at hy
    split at hy
    · exact hy
    · exact List.mem_of_mem_take hy
  · cases hy
theorem pageR_len2 (l : List It) (tok most la err : Int) : (pageR l tok most la err).1.length ≤ l.length := by
  unfold pageR
  split
  · unfold pageP
    split
    · exact Nat.le_refl _
    · show (l.take _).length ≤ _
      rw [List.length_take]
      omega
  · exact Nat.zero_le _

set_option maxRecDepth 100000 in
set_option maxHeartbeats 16000000 in
theorem lrep_calls (w : World) (birth cards log : Int) (A : Option Addr) (n c : Nat) (l : List StepV) (most : Int) (hr : Rds w A n 6 (stepsE l)) (hn : n = l.length) (hm : n ≤ maxLen) (hok : ∀ x ∈ l, OpOk x.1) :
    Calls Try.prog 16 #[.int .i64 birth, .int .i64 cards, .int .i64 log, .slice A n c, .int .i64 most] w fun e w' => e = .returned (.bool true) ∧ Below w.heap.size w w' := by
  have HR := hd hr
  have HN := hd hn
  have HE := hd hok
  unfold maxLen at hm
  by_cases hno : 40 < n ∨ birth < 1 ∨ 1099511627776 < birth
  · have HBI : Hd (∃ x y z : Bool, decide ((40 : Int) < (n : Int)) = x ∧ decide (birth < 1) = y ∧ decide (1099511627776 < birth) = z ∧ (x = true ∨ (x = false ∧ y = true) ∨ (x = false ∧ y = false ∧ z = true))) := hd ⟨_, _, _, rfl, rfl, rfl, by
      by_cases h0 : (40 : Int) < (n : Int)
      · left; simpa using h0
      · by_cases h1 : birth < 1
        · right; left; exact ⟨by simpa using h0, by simpa using h1⟩
        · right; right
          have h2 : 1099511627776 < birth := by
            rcases hno with h | h | h
            · omega
            · omega
            · exact h
          exact ⟨by simpa using h0, by simpa using h1, by simpa using h2⟩⟩
    clear hno hr hn hok
    obtain ⟨x, y, z, hx, hy, hz, hxy⟩ := HBI.o
    clear HBI
    rcases hxy with rfl | ⟨rfl, rfl⟩ | ⟨rfl, rfl, rfl⟩
    all_goals
      go_enter Try.func16, Try.ntmps16
      go_wp2_with fail
      refine (first_calls w).mono ?_
      rintro e w1 ⟨rfl, b1⟩
      go_wp2_with fail
      refine (first_calls w1).mono ?_
      rintro e w2 ⟨rfl, b2⟩
      go_wp2
      go_ret
      exact ⟨rfl, b1.trans (b2.mono b1.size)⟩
  · have hn40 : n ≤ 40 := by omega
    have hb1 : 1 ≤ birth := by omega
    have hb2 : birth ≤ 1099511627776 := by omega
    have g0 : decide ((40 : Int) < (n : Int)) = false := by simp; omega
    have g1 : decide (birth < 1) = false := by simp; omega
    have g2 : decide (1099511627776 < birth) = false := by simp; omega
    clear hno hr hn hok
    go_enter Try.func16, Try.ntmps16
    go_wp2_with fail
    refine (first_calls w).mono ?_
    rintro e w1 ⟨rfl, b1⟩
    have HB1 := hd b1
    clear b1
    go_wp2_with fail
    clear g0 g1 g2
    go_loop [11] (fun i => ∃ k : Nat, i = .int .i64 k ∧ k ≤ n ∧ Hd (∀ j (h : j < l.length), j < k → l[j].1.uid.length ≤ 60 ∧ l[j].1.card.length ≤ 1000)) (fun i => n - (intOf i).toNat)
    case atStart => exact ⟨0, rfl, Nat.zero_le _, hd (fun j _ h => absurd h (Nat.not_lt_zero _))⟩
    case round =>
      obtain ⟨k, rfl, hk, hall⟩ := hrel
      have hki : (0 : Int) ≤ (k : Int) := by omega
      by_cases hlt : k < n
      · have hlti : (k : Int) < (n : Int) := by omega
        have hkl : k < l.length := by rw [← HN.o]; exact hlt
        obtain ⟨g, o, rfl, hg, hc⟩ := HR.o.at_ (by omega)
        obtain ⟨x, hx⟩ : ∃ x, l[k]'hkl = x := ⟨_, rfl⟩
        have HX := hd hx
        have hes := HE.o x (by rw [← hx]; exact List.getElem_mem hkl)
        have hcell : ∀ j u, j < 6 → (stepE x)[j]? = some u → w1.cell? ⟨g, o + (k * 6 + j), none⟩ = some u := fun j u hj hv => (HB1.o.cell (p := ⟨g, o + (k * 6 + j), none⟩) hg).trans (hc _ _ ((stepsE_at l k hkl j hj).trans (by rw [hx]; exact hv)))
        obtain ⟨⟨del, uid, text, ck, cv⟩, sy⟩ := x
        have k0 := hcell 1 _ (by omega) rfl
        have k3 := hcell 2 _ (by omega) rfl
        rw [← Nat.add_assoc] at k0 k3
        obtain ⟨uz, huz⟩ : ∃ uz, uid.length = uz := ⟨_, rfl⟩
        obtain ⟨tz, htz⟩ : ∃ tz, text.length = tz := ⟨_, rfl⟩
        simp only [OpOk, huz, htz] at hes
        unfold maxLen at hes
        have hsu : (bs uid).size = uz := by rw [bs_sz, huz]
        have hst : (bs text).size = tz := by rw [bs_sz, htz]
        have HG : Hd (¬ 60 < uz → ¬ 1000 < tz → ∀ j (h : j < l.length), j < k + 1 → l[j].1.uid.length ≤ 60 ∧ l[j].1.card.length ≤ 1000) := hd (fun h1 h2 j hj hjk => by
          by_cases hjj : j < k
          · exact hall.o j hj hjj
          · obtain rfl : j = k := by omega
            rw [HX.o]
            simp only [huz, htz]
            omega)
        clear hcell hc hx huz htz
        by_cases v1 : 60 < uz
        · have g1 : decide ((60 : Int) < (uz : Int)) = true := by simp; omega
          clear v1
          go_wp2_with fail
          refine (first_calls w1).mono ?_
          rintro e w2 ⟨rfl, b2⟩
          go_wp2
          go_ret
          exact ⟨rfl, HB1.o.trans (b2.mono HB1.o.size)⟩
        · have g1 : decide ((60 : Int) < (uz : Int)) = false := by simp; omega
          by_cases v2 : 1000 < tz
          · have g2 : decide ((1000 : Int) < (tz : Int)) = true := by simp; omega
            clear v1 v2
            go_wp2_with fail
            refine (first_calls w1).mono ?_
            rintro e w2 ⟨rfl, b2⟩
            go_wp2
            go_ret
            exact ⟨rfl, HB1.o.trans (b2.mono HB1.o.size)⟩
          · have g2 : decide ((1000 : Int) < (tz : Int)) = false := by simp; omega
            have HH := hd (HG.o v1 v2)
            clear v1 v2
            go_wp2
            go_round
            case rel => exact ⟨k + 1, by go_num, by omega, HH⟩
            case measure => simp [intOf]; omega
      · obtain rfl : k = n := by omega
        have HSZ : Hd (∀ x ∈ l, x.1.uid.length ≤ 60 ∧ x.1.card.length ≤ 1000) := hd (fun x hx => by
          obtain ⟨j, hj, rfl⟩ := List.getElem_of_mem hx
          exact hall.o j hj (by rw [HN.o]; exact hj))
        clear hall hm
        have HRUN0 := hd (run_new birth cards log hb1)
        have HUID0 : Hd (UidC (Cs.new birth cards log)) := hd ⟨fun e he => (by cases he), fun x hx => (by cases hx)⟩
        go_wp2_with fail
        refine (ownc_new HB1.o birth cards log).mono ?_
        rintro e w4 ⟨b, rfl, hO, _⟩
        have HO := hd hO
        clear hO
        go_wp2_with fail
        refine (copyc_new HO.o).mono ?_
        rintro e w5 ⟨r, rfl, hC⟩
        have HC0 := hd hC
        have HG0 := hd (goes_start HRUN0.o.pos)
        clear hC HO
        go_wp2_with fail
        go_loopw [15, 14, 10, 16, 17, 18, 19, 20] (fun i t _ _ _ _ _ _ wr => ∃ (p : Nat) (s : Cs) (st : St), i = .int .i64 p ∧ t = .int .i64 (birth + p) ∧ p ≤ k ∧ st.ml.length ≤ 40 * p ∧ Hd (RunC s (birth + p) p) ∧ Hd (UidC s) ∧ Hd (Goes s st) ∧ Hd (CopyC w wr b r s st)) (fun i _ _ _ _ _ _ _ _ => k - (intOf i).toNat)
        case atStart => exact ⟨0, _, _, rfl, by first | rfl | (simp; done), Nat.zero_le _, Nat.zero_le _, hd (by have h := HRUN0.o; rw [show birth + ((0 : Nat) : Int) = birth by simp]; exact h), HUID0, HG0, HC0⟩
        case round =>
          clear HC0 HRUN0 HUID0 HG0
          obtain ⟨p, s, st, rfl, rfl, hp, hml, HRUN, HUID, HGO, HC⟩ := hrel
          have hpi : (0 : Int) ≤ (p : Int) := by omega
          by_cases hlt : p < k
          · have hlti : (p : Int) < (k : Int) := by omega
            have hkl : p < l.length := by rw [← HN.o]; exact hlt
            obtain ⟨ga, oa, rfl, hga, hc⟩ := HR.o.at_ (by omega)
            obtain ⟨x, hx⟩ : ∃ x, l[p]'hkl = x := ⟨_, rfl⟩
            have hxs := HSZ.o x (by rw [← hx]; exact List.getElem_mem hkl)
            have HCELL := hd (fun (W : World) (hW : Below w.heap.size w W) (j : Nat) (u : Value) (hj : j < 6) (hv : (stepE x)[j]? = some u) => (hW.cell (p := ⟨ga, oa + (p * 6 + j), none⟩) hga).trans (hc _ _ ((stepsE_at l p hkl j hj).trans (by rw [hx]; exact hv))))
            obtain ⟨⟨xd, xu, xc, xk, xv⟩, sy⟩ := x
            simp only at hxs
            have k0 := HCELL.o wr HC.o.below 0 _ (by omega) rfl
            have k1 := HCELL.o wr HC.o.below 1 _ (by omega) rfl
            have k2 := HCELL.o wr HC.o.below 2 _ (by omega) rfl
            have k3 := HCELL.o wr HC.o.below 3 _ (by omega) rfl
            have k4 := HCELL.o wr HC.o.below 4 _ (by omega) rfl
            rw [← Nat.add_assoc] at k0 k1 k2 k3 k4
            rw [Nat.add_zero] at k0
            have hz1 := HRUN.o.ml
            have hz2 := HRUN.o.log
            have hz3 := HRUN.o.bytes
            have hA := copyc_apply HC.o ⟨xd, xu, xc, xk, xv⟩ (birth + (p : Int) + 1) (by omega) (by omega) (by omega) (by show xc.length ≤ _; omega) (by show xu.length ≤ maxLen; unfold maxLen; omega)
            have HRUN2 := hd (HRUN.o.step (by omega) ⟨xd, xu, xc, xk, xv⟩ (by show xc.length ≤ 1000; omega))
            have HUID2 := hd (HUID.o.step HRUN.o.good.ok ⟨xd, xu, xc, xk, xv⟩ (birth + (p : Int) + 1) (by show xu.length ≤ 60; omega))
            have HGO2 := hd (HGO.o.step HRUN.o.good.ok (T := birth + (p : Int) + 1) (by have := HRUN.o.le; omega) ⟨xd, xu, xc, xk, xv⟩)
            have HEQ : Hd (birth + (p : Int) + 1 = birth + ((p + 1 : Nat) : Int)) := hd (by omega)
            obtain ⟨er, her⟩ : ∃ x, (s.step ⟨xd, xu, xc, xk, xv⟩ (birth + (p : Int) + 1)).1 = x := ⟨_, rfl⟩
            obtain ⟨s2, hs2⟩ : ∃ x, (s.step ⟨xd, xu, xc, xk, xv⟩ (birth + (p : Int) + 1)).2 = x := ⟨_, rfl⟩
            rw [her, hs2] at hA
            rw [hs2] at HRUN2 HUID2 HGO2
            have HA := hd hA
            simp only [opEnc] at HA
            clear hA her hs2 hz1 hz2 hz3 hxs hc hx hkl HRUN HUID HGO
            go_wp2_with fail
            refine HA.o.mono ?_
            rintro e w7 ⟨rfl, hC7⟩
            have HC7 := hd hC7
            have k5 := HCELL.o w7 hC7.below 5 _ (by omega) rfl
            rw [← Nat.add_assoc] at k5
            clear hC7 k0 k1 k2 k3 k4 HC HA HCELL
            cases sy with
            | false =>
              go_wp2
              go_roundw
              case rel => exact ⟨p + 1, s2, st, by go_num, by rw [← HEQ.o], by omega, by omega, hd (by rw [← HEQ.o]; exact HRUN2.o), HUID2, HGO2, HC7⟩
              case measure => simp [intOf]; omega
            | true =>
              have HTK := hd (own_token HC7.o.rep)
              have hz1 := HRUN2.o.ml
              have hz2 := HRUN2.o.log
              have HPG := hd (ownc_pageN HC7.o.own st.token most (by omega) (by omega))
              obtain ⟨tk, htk⟩ : ∃ x, st.token = x := ⟨_, rfl⟩
              have HTKE := hd htk
              rw [htk] at HTK HPG
              clear htk
              go_wp2_with fail
              refine HTK.o.mono ?_
              rintro e w8 ⟨rfl, rfl⟩
              clear k5
              go_wp2_with fail
              refine HPG.o.mono ?_
              rintro e w9 ⟨l1, err, A5, c5, rfl, hs, hrd, _, hbb, hfr⟩
              have hle := since_len hs
              have hsu := since_uid HUID2.o HRUN2.o.good HRUN2.o.tok hs
              rw [← HTKE.o] at hs
              have hFP := fold_page HRUN2.o HGO2.o hs most
              rw [HTKE.o] at hFP hs
              have hpl := pageR_len2 l1 tk most s2.latest err
              have hsub := pageR_sub l1 tk most s2.latest err
              have hK := fun hsz => copyc_fold2 HC7.o hbb tk (pageRs err (pageR l1 tk most s2.latest err).2.1 (pageR l1 tk most s2.latest err).2.2) (pageR l1 tk most s2.latest err).1 A5 c5 hrd hfr (by rcases hle with h | h <;> omega) hsz
              have hK := hK (fun x hx => by have := hsu x (hsub x hx); unfold maxLen; omega)
              have hfl := fold_len st tk (pageRs err (pageR l1 tk most s2.latest err).2.1 (pageR l1 tk most s2.latest err).2.2) (pageR l1 tk most s2.latest err).1
              have HC9 := hd (HC7.o.bel hbb)
              obtain ⟨R, hR⟩ : ∃ R, pageR l1 tk most s2.latest err = R := ⟨_, rfl⟩
              rw [hR] at hFP hpl hK hfl
              simp only [hR]
              obtain ⟨pg, tn, mo⟩ := R
              simp only at hFP hpl hK hfl ⊢
              obtain ⟨F, hF⟩ : ∃ F, foldSem st tk (pageRs err tn mo) pg = F := ⟨_, rfl⟩
              rw [hF] at hFP hK hfl
              obtain ⟨res, st2⟩ := F
              obtain ⟨q1, hq1⟩ : ∃ q, pg.length = q := ⟨_, rfl⟩
              simp only [hq1] at hFP hpl hK hfl ⊢
              have hml2 : st2.ml.length ≤ 40 * (p + 1) := by rcases hle with h | h <;> omega
              obtain ⟨⟨hres, hgo, herr, hdone⟩, hmore⟩ := hFP
              obtain rfl : res = 0 := hres
              simp only [rsEnc, pageRs] at hK
              rw [show bs [] = ⟨#[]⟩ from rfl] at hK
              have HK := hd hK
              have HGO3 := hd hgo
              have HDONE := hd hdone
              have HERR := hd herr
              have HMORE := hd hmore
              clear hs hrd hbb hfr hle hsu hpl hsub hK hfl hR hF hq1 hgo hdone herr hmore hz1 hz2 HTK HPG
              have HNX : Hd (∀ W, CopyC w W b r s2 st2 → p + 1 ≤ k ∧ st2.ml.length ≤ 40 * (p + 1) ∧ RunC s2 (birth + ((p + 1 : Nat) : Int)) (p + 1) ∧ UidC s2 ∧ Goes s2 st2 ∧ CopyC w W b r s2 st2) := hd (fun W hW => ⟨by omega, hml2, by rw [← HEQ.o]; exact HRUN2.o, HUID2.o, HGO3.o, hW⟩)
              by_cases he : err = 0
              · subst he
                cases mo with
                | true =>
                  go_wp2_with fail
                  refine HK.o.mono ?_
                  rintro e w10 ⟨rfl, hC10⟩
                  have HC10 := hd hC10
                  clear hC10
                  go_wp2
                  go_roundw
                  case rel => exact ⟨p + 1, s2, st2, by go_num, by rw [← HEQ.o], by omega, (HNX.o _ HC10.o).2.1, hd (HNX.o _ HC10.o).2.2.1, HUID2, HGO3, HC10⟩
                  case measure => simp [intOf]; omega
                | false =>
                  have hm2 : st2.more = false := by first | exact HMORE.o rfl | exact HMORE.o trivial | exact HMORE.o
                  obtain ⟨ht2, hl2⟩ : st2.token = s2.latest ∧ st2.ml.map (·.2) = liveL s2.ml := by first | exact HDONE.o rfl hm2 | exact HDONE.o trivial hm2 | exact HDONE.o hm2
                  have HT2 := hd ht2
                  have HL2 := hd hl2
                  clear hm2 ht2 hl2
                  go_wp2_with fail
                  refine HK.o.mono ?_
                  rintro e w10 ⟨rfl, hC10⟩
                  have HC10 := hd hC10
                  clear hC10 HK
                  have HT3 := hd (own_token HC10.o.rep)
                  rw [HT2.o] at HT3
                  have HLA := hd (ownc_lat HC10.o.own)
                  have f1 : (s2.latest != s2.latest) = false := by simp
                  have HCA := hd (own_cards HC10.o.rep (by omega))
                  have hlen : s2.ml.length = st2.ml.length := by rw [← liveL_len s2.ml, ← HL2.o, List.length_map]
                  have HLI := hd (fun W (h : CopyC w W b r s2 st2) => ownc_live h.own (by omega))
                  rw [HL2.o] at HCA
                  rw [hlen] at HLI
                  obtain ⟨L, hL⟩ : ∃ L, liveL s2.ml = L := ⟨_, rfl⟩
                  have hll : L.length = st2.ml.length := by rw [← hL, liveL_len, hlen]
                  rw [hL] at HCA HLI
                  obtain ⟨m, hmm⟩ : ∃ m, st2.ml.length = m := ⟨_, rfl⟩
                  rw [hmm] at HCA HLI hml2 hll
                  obtain ⟨la, hla⟩ : ∃ x, s2.latest = x := ⟨_, rfl⟩
                  rw [hla] at HT3 HLA f1
                  have hI := fun (W : World) (A1 A2 : Option Addr) (c1 c2 : Nat) (h1 : Rds W A1 m 4 (itsEnc L)) (h2 : Rds W A2 m 4 (itsEnc L)) => its_calls W A1 A2 m m c1 c2 L L hll.symm hll.symm h1 h2 (by omega) (by omega)
                  rw [decide_eq_true (rfl : L = L)] at hI
                  have HI := hd hI
                  clear hI hla hL hlen hll hmm
                  go_wp2_with fail
                  refine HT3.o.mono ?_
                  rintro e w11 ⟨rfl, rfl⟩
                  go_wp2_with fail
                  refine HLA.o.mono ?_
                  rintro e w11 ⟨rfl, rfl⟩
                  go_wp2_with fail
                  refine HCA.o.mono ?_
                  rintro e w11 ⟨A6, c6, rfl, hr6, _, hb6⟩
                  have HR6 := hd hr6
                  have HC11 := hd (HC10.o.bel hb6)
                  clear hr6 hb6
                  go_wp2_with fail
                  refine (HLI.o _ HC11.o).mono ?_
                  rintro e w12 ⟨A7, c7, rfl, hr7, hb7⟩
                  have HR7 := hd hr7.rds
                  have HR8 := hd (HR6.o.below hb7)
                  have HC12 := hd (HC11.o.bel hb7)
                  clear hr7 hb7
                  go_wp2_with fail
                  refine (HI.o _ _ _ _ _ HR8.o HR7.o).mono ?_
                  rintro e w13 ⟨rfl, hb13⟩
                  have HC13 := hd (HC12.o.bel hb13)
                  clear hb13
                  go_wp2
                  go_roundw
                  case rel => exact ⟨p + 1, s2, st2, by go_num, by rw [← HEQ.o], by omega, (HNX.o _ HC13.o).2.1, hd (HNX.o _ HC13.o).2.2.1, HUID2, HGO3, HC13⟩
                  case measure => simp [intOf]; omega
              · obtain ⟨rfl, hlt8⟩ := HERR.o he
                rw [HTKE.o] at hlt8
                have f1 : decide (s2.horizon ≤ tk) = false := by simp; omega
                have HHO := hd (ownc_hor HC9.o.own)
                obtain ⟨ho, hho⟩ : ∃ x, s2.horizon = x := ⟨_, rfl⟩
                rw [hho] at HHO f1
                clear he hlt8 hho HERR HDONE HMORE
                go_wp2_with fail
                refine HHO.o.mono ?_
                rintro e w11 ⟨rfl, rfl⟩
                go_wp2_with fail
                refine HK.o.mono ?_
                rintro e w10 ⟨rfl, hC10⟩
                have HC10 := hd hC10
                clear hC10
                go_wp2
                go_roundw
                case rel => exact ⟨p + 1, s2, st2, by go_num, by rw [← HEQ.o], by omega, (HNX.o _ HC10.o).2.1, hd (HNX.o _ HC10.o).2.2.1, HUID2, HGO3, HC10⟩
                case measure => simp [intOf]; omega
          · obtain rfl : p = k := by omega
            have HT3 := hd (own_token HC.o.rep)
            have HLA := hd (ownc_lat HC.o.own)
            have f1 : decide (st.token ≤ s.latest) = true := by simpa using HGO.o.le
            obtain ⟨tk, htk⟩ : ∃ x, st.token = x := ⟨_, rfl⟩
            obtain ⟨la, hla⟩ : ∃ x, s.latest = x := ⟨_, rfl⟩
            rw [htk] at HT3 f1
            rw [hla] at HLA f1
            clear htk hla
            go_wp2_with fail
            refine HT3.o.mono ?_
            rintro e w11 ⟨rfl, rfl⟩
            go_wp2_with fail
            refine HLA.o.mono ?_
            rintro e w11 ⟨rfl, rfl⟩
            go_wp2
            go_ret
            exact ⟨rfl, HC.o.below⟩

end Go.Proofs.Ytbeckfnhgeclnaa
/-
  ReplicaCol: whatever the arguments, the call returns true, and all reads as it did. No condition.
-/
namespace Go.Proofs.Ytbeckfnhgeclnaa.replicaColLaw
open Go.ChangeShapes Go.WideShapes Go.ChangeAt Go.RowKit

set_option maxRecDepth 100000 in
theorem lifted (os : Os) (started : os.Started) (H : Type) (enc : TypeId × Value → H) :
    ReturnsInHanded {} Try.checked os 16 .any (Rows.replicaColSpec.pre6 enc Try.prog Try.f16 Rows.replicaColRow.domain false) (Rows.replicaColSpec.post enc Try.prog Try.f16 false true false false) := by
  refine returnsInHanded_of_change (C := Try.checked) own started (by kernel_rfl) Try.func16
    (ChangeSpec.witness6 (enc := enc) (C := Try.checked) false ⟨#[], #[.int .i64 0, .int .i64 0, .int .i64 0, .slice none 0 0, .int .i64 0], []⟩ 8 (by kernel_rfl) (by kernel_rfl) (by kernel_rfl) (by kernel_rfl)) ?_
  intro W base args ds gs before hval0 hW hcnd _
  have hval : ∀ (j : Nat) t v, Try.f16.params[j]? = some t → args[j]? = some v → Value.okWide Try.prog W .any base t v := hval0
  have hW' := hW
  obtain ⟨p, q, hA0, hV, rfl, hfz, hnd⟩ := hW
  have hA : DataW.TrodAll enc Try.prog W 0 (fun _ => true) true Try.f16.params.toList args.toList ds p := hA0
  rw [Try.params16] at hA hval
  obtain ⟨v0, vs0, d0, ds0, p0, q0, hargs0, rfl, rfl, h0, r0⟩ := trodAll_cons hA
  obtain ⟨v1, vs1, d1, ds1, p1, q1, hargs1, rfl, rfl, h1, r1⟩ := trodAll_cons r0
  obtain ⟨v2, vs2, d2, ds2, p2, q2, hargs2, rfl, rfl, h2, r2⟩ := trodAll_cons r1
  obtain ⟨v3, vs3, d3, ds3, p3, q3, hargs3, rfl, rfl, h3, r3⟩ := trodAll_cons r2
  obtain ⟨v4, vs4, d4, ds4, p4, q4, hargs4, rfl, rfl, h4, r4⟩ := trodAll_cons r3
  obtain ⟨rfl, rfl, rfl⟩ := trodAll_nil r4
  obtain rfl : args = #[v0, v1, v2, v3, v4] := by cases args; simp_all
  obtain ⟨rfl, rfl⟩ := trodVars_none hV
  have lt0 : ∀ x ∈ p0, x.block < W.heap.size := by obtain ⟨m, hm⟩ := h0; exact DataW.trod_lt m _ _ _ hm
  have lt1 : ∀ x ∈ p1, x.block < W.heap.size := by obtain ⟨m, hm⟩ := h1; exact DataW.trod_lt m _ _ _ hm
  have lt2 : ∀ x ∈ p2, x.block < W.heap.size := by obtain ⟨m, hm⟩ := h2; exact DataW.trod_lt m _ _ _ hm
  have lt3 : ∀ x ∈ p3, x.block < W.heap.size := by obtain ⟨m, hm⟩ := h3; exact DataW.trod_lt m _ _ _ hm
  have lt4 : ∀ x ∈ p4, x.block < W.heap.size := by obtain ⟨m, hm⟩ := h4; exact DataW.trod_lt m _ _ _ hm
  have g0 := h0
  have g1 := h1
  have g2 := h2
  have g3 := h3
  have g4 := h4
  obtain ⟨x0, rfl, lo0, hi0⟩ := open_int (k := .i64) Try.underlying2 (hval 0 2 v0 rfl rfl) g0
  obtain ⟨x1, rfl, lo1, hi1⟩ := open_int (k := .i64) Try.underlying3 (hval 1 3 v1 rfl rfl) g1
  obtain ⟨x2, rfl, lo2, hi2⟩ := open_int (k := .i64) Try.underlying3 (hval 2 3 v2 rfl rfl) g2
  obtain ⟨A3, n3, c3, rfl⟩ := okWide_slice Try.underlying82 (hval 3 82 v3 rfl rfl)
  obtain ⟨l3, rd3, ln3, mx3, ok3⟩ := rds_of_steps Try.underlying82 g3
  obtain ⟨x4, rfl, lo4, hi4⟩ := open_int (k := .i64) Try.underlying3 (hval 4 3 v4 rfl rfl) g4
  clear hA0 hval0
  refine (lrep_calls W x0 x1 x2 A3 n3 c3 l3 x4 rd3 ln3 mx3 ok3).mono fun e W' ⟨he, bel⟩ => ?_
  subst he
  exact ⟨_, rfl, _, _, _, [], _, [], hW', trodAll_mk1 (shut_bool Try.underlying4 _), (trodAll_cons_mk (Below.trod laidOut (by kernel_rfl) (of_decide_eq_true (by kernel_rfl)) h0 bel lt0) (trodAll_cons_mk (Below.trod laidOut (by kernel_rfl) (of_decide_eq_true (by kernel_rfl)) h1 bel lt1) (trodAll_cons_mk (Below.trod laidOut (by kernel_rfl) (of_decide_eq_true (by kernel_rfl)) h2 bel lt2) (trodAll_cons_mk (Below.trod laidOut (by kernel_rfl) (of_decide_eq_true (by kernel_rfl)) h3 bel lt3) (trodAll_cons_mk (Below.trod laidOut (by kernel_rfl) (of_decide_eq_true (by kernel_rfl)) h4 bel lt4) trodAll_mk0))))), rfl, bel.frame _, fun h => by cases h⟩

theorem over : Rows.replicaColRow.holds Try.pinned (OpenSpec.ofChange Rows.replicaColSpec) :=
  OpenClaim.holds_of_wide 16 Try.f16 rfl rfl rfl rfl rfl rfl rfl ⟨rfl, rfl, rfl, rfl, rfl⟩ rfl rfl rfl rfl rfl (by kernel_rfl) Try.func16 (by kernel_rfl)
    (of_decide_eq_true (by kernel_rfl)) (by unfold Func.isWrapper; first | (rw [if_pos (by decide +kernel)]; kernel_rfl) | (rw [if_neg (by decide +kernel)]; exact ⟨rfl, rfl⟩))
    (fun os started H enc _ => lifted os started H enc)

/-- The statement. -/
theorem proved : Rows.ReplicaColSaid := over
end Go.Proofs.Ytbeckfnhgeclnaa.replicaColLaw
