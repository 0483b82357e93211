/-
  ColFolds: whatever the arguments, the call returns true, and all reads as it did. No condition.
-/
import Derived.Test.YtbeckfnhgeclnaaItSort
import Derived.Test.YtbeckfnhgeclnaaIts
import Derived.BigQuiet
import Derived.Deep.QuietTactic
import Derived.Test.YtbeckfnhgeclnaaSinceC
import Derived.Test.YtbeckfnhgeclnaaKnowsP
import Derived.Test.YtbeckfnhgeclnaaFoldP
import Derived.Test.YtbeckfnhgeclnaaRColS
import Derived.Test.YtbeckfnhgeclnaaColLift
import Derived.Test.YtbeckfnhgeclnaaColP
import Derived.Test.YtbeckfnhgeclnaaLightR
import Derived.Test.YtbeckfnhgeclnaaRColA
set_option linter.unusedVariables false
set_option linter.unusedSimpArgs false
/-
  Split: the program's, the reference's.
-/
namespace Go.Proofs.Ytbeckfnhgeclnaa
open Go.RowKit Go.Lib

def verIs (l : List It) (v : Int) : Bool := l.any fun x => x.ver == v
theorem verIs_snoc (l : List It) (x : It) (v : Int) : verIs (l ++ [x]) v = (verIs l v || (x.ver == v)) := by simp [verIs]
/-- May the list be cut at n? -/
def cutOk (l : List It) (n : Nat) : Bool := !verIs (l.drop n) (l.getD (n - 1) default).ver
def splitG (l : List It) : Nat → Nat → Nat
  | 0, _ => l.length
  | f + 1, n => if n < l.length then (if cutOk l n = true then n else splitG l f (n + 1)) else l.length
def splitV (l : List It) (v : Int) : Nat := splitG l (l.length - v.toNat) v.toNat
def splitP (l : List It) (most : Int) : Nat := splitV l (max most 1)
theorem splitV_end {l : List It} {v : Int} (h : ¬ v < l.length) (h1 : 0 ≤ v) : splitV l v = l.length := by
  unfold splitV
  rw [show l.length - v.toNat = 0 by omega]
  rfl
theorem splitV_step {l : List It} {n : Nat} (h : n < l.length) : splitV l n = if cutOk l n = true then n else splitV l ((n : Int) + 1) := by
  unfold splitV
  rw [show l.length - (n : Int).toNat = (l.length - (n + 1)) + 1 by omega, show ((n : Int)).toNat = n by omega, show ((n : Int) + 1).toNat = n + 1 by omega]
  simp only [splitG, if_pos h]
theorem splitG_le (l : List It) : ∀ f n, splitG l f n ≤ l.length
  | 0, _ => Nat.le_refl _
  | f + 1, n => by
    unfold splitG
    split
    · split
      · omega
      · exact splitG_le l f (n + 1)
    · exact Nat.le_refl _
theorem splitP_le (l : List It) (most : Int) : splitP l most ≤ l.length := splitG_le _ _ _

theorem Rds.drop {w : World} {A : Option Addr} {n : Nat} {l : List It} (h : Rds w A n 4 (itsEnc l)) (m : Nat) (hm : m < n) : ∃ g o, A = some ⟨g, o, none⟩ ∧ Rds w (some ⟨g, o + m * 4, none⟩) (n - m) 4 (itsEnc (l.drop m)) := by
  obtain ⟨g, o, hA, hg, hc⟩ := h.at_ (by omega)
  have hl := h.len
  refine ⟨g, o, hA, ⟨?_, fun _ => ⟨g, o + m * 4, rfl, hg, fun j u hu => ?_⟩⟩⟩
  · rw [itsEnc_len] at hl ⊢
    rw [List.length_drop]
    have : l.length = n := by omega
    omega
  · have e : itsEnc (l.drop m) = (itsEnc l).drop (m * 4) := (flat_drop itEnc 4 itEnc_len l m).symm
    rw [e, List.getElem?_drop] at hu
    have := hc _ _ hu
    rw [← Nat.add_assoc] at this
    exact this

theorem split1_calls (w : World) (x : It) (b : Nat) (v : Int) (hb : w.cell? ⟨b, 0, none⟩ = some (.int .i64 v)) (hl : b < w.heap.size) :
    Calls Try.prog 78 #[.agg (itEnc x).toArray, .pointer (some ⟨b, 0, none⟩)] w fun e w' => e = .returned (.bool (x.ver == v)) ∧ w.alloc (.cells (itEnc x).toArray 41) = w' := by
  obtain ⟨xu, xv, xg, xc⟩ := x
  simp only [itEnc]
  go_enter Try.func78, Try.ntmps78
  go_wp2
  go_ret
  exact ⟨rfl, rfl⟩

set_option maxRecDepth 100000 in
set_option maxHeartbeats 2000000 in
theorem ifI_calls (w : World) (A : Option Addr) (n c : Nat) (l : List It) (b : Nat) (v : Int) (hr : Rds w A n 4 (itsEnc l)) (hn : n = l.length) (hm : n ≤ 1000000) (hb : w.cell? ⟨b, 0, none⟩ = some (.int .i64 v)) (hl : b < w.heap.size) :
    Calls Try.prog 95 #[.slice A n c, .func (.func 78) #[] #[.pointer (some ⟨b, 0, none⟩)]] w fun e w' => ∃ i : Int, e = .returned (.int .i64 i) ∧ decide (0 ≤ i) = verIs l v ∧ Below w.heap.size w w' := by
  have HR := hd hr
  have HN := hd hn
  have HC := hd (fun wr (hbe : Below w.heap.size w wr) (x : It) => split1_calls wr x b v ((hbe.cell (p := ⟨b, 0, none⟩) hl).trans hb) (Nat.lt_of_lt_of_le hl hbe.size))
  clear hr hn hb
  go_enter Try.func95, Try.ntmps95
  go_wp2_with fail
  go_loopw [8, 5] (fun s8 s5 wr => ∃ k : Nat, s8 = .int .i64 k ∧ k ≤ n ∧ Hd (verIs (l.take k) v = false) ∧ Hd (Below w.heap.size w wr)) (fun s8 _ _ => n - (intOf s8).toNat)
  case atStart => exact ⟨0, rfl, Nat.zero_le _, hd rfl, hd (Below.refl _ _)⟩
  case round =>
    obtain ⟨k, rfl, hk, HV, HB⟩ := hrel
    have hki : (0 : Int) ≤ (k : Int) := by omega
    by_cases hlt : k < n
    · have hlti : (k : Int) < (n : Int) := by omega
      have hkl : k < l.length := by rw [← HN.o]; exact hlt
      obtain ⟨g, o, rfl, hg, hc⟩ := HR.o.at_ (by omega)
      obtain ⟨x, hx⟩ : ∃ x, l[k]'hkl = x := ⟨_, rfl⟩
      have HT : Hd (l.take (k + 1) = l.take k ++ [x]) := hd (by rw [List.take_succ_eq_append_getElem hkl, hx])
      have HMEM : Hd (x ∈ l) := hd (by rw [← hx]; exact List.getElem_mem hkl)
      have hcell : ∀ j u, j < 4 → (itEnc x)[j]? = some u → wr.cell? ⟨g, o + (k * 4 + j), none⟩ = some u := fun j u hj hv => (HB.o.cell (p := ⟨g, o + (k * 4 + j), none⟩) hg).trans (hc _ _ ((flat_at itEnc 4 itEnc_len l k hkl j hj).trans (by rw [hx]; exact hv)))
      have hcall := hd (HC.o wr HB.o x)
      obtain ⟨xu, xv, xg, xc⟩ := x
      have k0 := hcell 0 _ (by omega) rfl
      have k1 := hcell 1 _ (by omega) rfl
      have k2 := hcell 2 _ (by omega) rfl
      have k3 := hcell 3 _ (by omega) rfl
      rw [← Nat.add_assoc] at k0 k1 k2 k3
      rw [Nat.add_zero] at k0
      simp only [itEnc] at hcall
      obtain ⟨bq, hbq⟩ : ∃ q : Bool, (xv == v) = q := ⟨_, rfl⟩
      rw [hbq] at hcall
      have HBQ := hd hbq
      clear hcell hc hx hkl hbq
      go_wp2_with fail
      refine hcall.o.mono ?_
      rintro e w1 ⟨rfl, rfl⟩
      have HB1 := hd (HB.o.alloc HB.o.size (.cells #[.string (bs xu), .int .i64 xv, .bool xg, .string (bs xc)] 41))
      cases bq with
      | true =>
        go_wp2
        go_ret
        refine ⟨(k : Int), rfl, ?_, HB1.o⟩
        rw [decide_eq_true hki]
        symm
        simp only [verIs, List.any_eq_true]
        exact ⟨_, HMEM.o, HBQ.o⟩
      | false =>
        have HV2 : Hd (verIs (l.take (k + 1)) v = false) := hd (by rw [HT.o, verIs_snoc, HV.o]; simpa using HBQ.o)
        go_wp2
        go_roundw
        case rel => exact ⟨k + 1, by go_num, by omega, HV2, HB1⟩
        case measure => simp [intOf]; omega
    · obtain rfl : k = n := by omega
      have HE : Hd (l.take k = l) := hd (List.take_of_length_le (by rw [← HN.o]; exact Nat.le_refl _))
      go_wp2
      go_ret
      refine ⟨-1, rfl, ?_, HB.o⟩
      have := HV.o
      rw [HE.o] at this
      rw [this]
      rfl
theorem cfI_calls (w : World) (A : Option Addr) (n c : Nat) (l : List It) (b : Nat) (v : Int) (hr : Rds w A n 4 (itsEnc l)) (hn : n = l.length) (hm : n ≤ 1000000) (hb : w.cell? ⟨b, 0, none⟩ = some (.int .i64 v)) (hl : b < w.heap.size) :
    Calls Try.prog 77 #[.slice A n c, .func (.func 78) #[] #[.pointer (some ⟨b, 0, none⟩)]] w fun e w' => e = .returned (.bool (verIs l v)) ∧ Below w.heap.size w w' := by
  have hc := hd (ifI_calls w A n c l b v hr hn hm hb hl)
  clear hr hn hb
  go_enter Try.func77, Try.ntmps77
  go_wp2_with fail
  refine hc.o.mono ?_
  rintro e w1 ⟨i, rfl, hi, hb1⟩
  have HI := hd hi
  clear hi
  go_wp2
  go_ret
  exact ⟨ret_bool (by rw [← HI.o]), hb1⟩

set_option maxRecDepth 100000 in
set_option maxHeartbeats 2000000 in
theorem csplit_calls (w : World) (A : Option Addr) (n c : Nat) (l : List It) (most : Int) (hr : Rds w A n 4 (itsEnc l)) (hn : n = l.length) (hm : n ≤ 1000000) (hnc : n ≤ c) :
    Calls Try.prog 48 #[.slice A n c, .int .i64 most] w fun e w' => e = .returned (.int .i64 (splitP l most : Nat)) ∧ Below w.heap.size w w' := by
  have HR := hd hr
  have HN := hd hn
  obtain ⟨res, hres⟩ : ∃ r, splitP l most = r := ⟨_, rfl⟩
  have HP : Hd (splitV l (max most 1) = res) := hd hres
  rw [hres]
  clear hr hn hres
  go_enter Try.func48, Try.ntmps48
  go_wp2_with fail
  all_goals
    go_loopw [5] (fun s5 wr => ∃ v : Int, s5 = .int .i64 v ∧ 1 ≤ v ∧ Hd (splitV l v = res) ∧ Hd (Below w.heap.size w wr)) (fun s5 _ => n - (intOf s5).toNat)
    case atStart => exact ⟨max most 1, rfl, by omega, HP, hd (Below.refl _ _)⟩
    case round =>
      obtain ⟨v, rfl, hv1, HS, HB⟩ := hrel
      by_cases hlt : v < n
      · obtain ⟨k, rfl⟩ : ∃ k : Nat, v = k := ⟨v.toNat, by omega⟩
        have hkn : k < n := by omega
        have hkl : k < l.length := by rw [← HN.o]; exact hkn
        obtain ⟨g, o, rfl, hg, hc⟩ := HR.o.at_ (by omega)
        obtain ⟨g', o', hA', hdr⟩ := HR.o.drop k hkn
        injection hA' with hA'
        injection hA' with e1 e2
        subst e1 e2
        obtain ⟨p, hp⟩ : ∃ p : Nat, k = p + 1 := ⟨k - 1, by omega⟩
        have hpl : p < l.length := by omega
        obtain ⟨x, hx⟩ : ∃ x, l[p]'hpl = x := ⟨_, rfl⟩
        have k1 : wr.cell? ⟨g, o + (p * 4 + 1), none⟩ = some (.int .i64 x.ver) := (HB.o.cell (p := ⟨g, o + (p * 4 + 1), none⟩) hg).trans (hc _ _ ((flat_at itEnc 4 itEnc_len l p hpl 1 (by omega)).trans (by rw [hx]; rfl)))
        rw [← Nat.add_assoc] at k1
        have hgd : l.getD (k - 1) default = x := by rw [hp, Nat.add_sub_cancel, List.getD_eq_getElem?_getD, List.getElem?_eq_getElem hpl, hx]; rfl
        have HCUT : Hd (cutOk l k = !verIs (l.drop k) x.ver) := hd (by unfold cutOk; rw [hgd])
        have HST : Hd ((if cutOk l k = true then k else splitV l ((k : Int) + 1)) = res) := hd (by rw [← splitV_step hkl]; exact HS.o)
        have hpi : (k : Int) - 1 = (p : Int) := by omega
        have hpn : (p : Int) < (n : Int) := by omega
        have hp0 : (0 : Int) ≤ (p : Int) := by omega
        have hck : ¬ c = k := by omega
        have hkc : (k : Int) ≤ (n : Int) := by omega
        have hdl : n - k = (l.drop k).length := by rw [List.length_drop, ← HN.o]
        have HDR := hd hdr
        have HDL := hd hdl
        obtain ⟨xv, hxv⟩ : ∃ q, x.ver = q := ⟨_, rfl⟩
        rw [hxv] at k1 HCUT
        have HCALL : Hd (Calls Try.prog 77 #[.slice (some ⟨g, o + k * 4, none⟩) (n - k) (c - k), .func (.func 78) #[] #[.pointer (some ⟨wr.heap.size, 0, none⟩)]] (wr.alloc (.cells #[.int .i64 xv] 2)) fun e w' => e = .returned (.bool (verIs (l.drop k) xv)) ∧ Below (wr.alloc (.cells #[.int .i64 xv] 2)).heap.size (wr.alloc (.cells #[.int .i64 xv] 2)) w') := hd (cfI_calls _ _ _ _ (l.drop k) wr.heap.size xv ((HDR.o.below HB.o).alloc _) HDL.o (by omega) ((Blk.new wr 2 _).at_ 0 rfl) (by simp))
        have HB1 := hd (HB.o.alloc HB.o.size (.cells #[.int .i64 xv] 2))
        obtain ⟨q, hq⟩ : ∃ q, verIs (l.drop k) xv = q := ⟨_, rfl⟩
        rw [hq] at HCALL HCUT
        clear hc hdr hx hgd hdl hxv hq hkl hpl
        subst hp
        cases q with
        | true =>
          have HST2 : Hd (splitV l (((p + 1 : Nat) : Int) + 1) = res) := hd (by have := HST.o; rw [HCUT.o] at this; simpa using this)
          go_wp2_with fail
          refine HCALL.o.mono ?_
          rintro e w1 ⟨rfl, hb1⟩
          have HB2 := hd (HB1.o.trans (hb1.mono HB1.o.size))
          clear hb1
          go_wp2
          go_roundw
          case rel => exact ⟨((p + 1 : Nat) : Int) + 1, by go_num, by omega, HST2, HB2⟩
          case measure => simp [intOf]; omega
        | false =>
          have HST2 : Hd (p + 1 = res) := hd (by have := HST.o; rw [HCUT.o] at this; simpa using this)
          go_wp2_with fail
          refine HCALL.o.mono ?_
          rintro e w1 ⟨rfl, hb1⟩
          have HB2 := hd (HB1.o.trans (hb1.mono HB1.o.size))
          clear hb1
          go_wp2
          go_ret
          exact ⟨ret_int (by have := HST2.o; omega), HB2.o⟩
      · have hge : ¬ v < (l.length : Int) := by rw [← HN.o]; exact hlt
        have HE : Hd (n = res) := hd (by rw [← HS.o, splitV_end hge (by omega)]; exact HN.o)
        go_wp2
        go_ret
        exact ⟨ret_int (by have := HE.o; omega), HB.o⟩

/-- Is a version among those from n on, below k? -/
def behB (l : List It) (n k : Nat) (v : Int) : Bool := verIs ((l.take k).drop n) v
theorem behB_snoc {l : List It} {n k : Nat} {v : Int} (h1 : n ≤ k) (h2 : k < l.length) {x : It} (hx : l[k] = x) : behB l n (k + 1) v = (behB l n k v || (x.ver == v)) := by
  unfold behB
  rw [List.take_succ_eq_append_getElem h2, hx, List.drop_append_of_le_length (by rw [List.length_take]; omega), verIs_snoc]
theorem behB_start (l : List It) (n : Nat) (v : Int) : behB l n n v = false := by
  unfold behB
  rw [List.drop_of_length_le (by rw [List.length_take]; omega)]
  rfl
theorem behB_full (l : List It) (n : Nat) (v : Int) : behB l n l.length v = verIs (l.drop n) v := by unfold behB; rw [List.take_length]

set_option maxRecDepth 100000 in
set_option maxHeartbeats 4000000 in
theorem rsplit_calls (w : World) (A : Option Addr) (n c : Nat) (l : List It) (most : Int) (hr : Rds w A n 4 (itsEnc l)) (hn : n = l.length) (hm : n ≤ 1000000) :
    Calls Try.prog 49 #[.slice A n c, .int .i64 most] w fun e w' => e = .returned (.int .i64 (splitP l most : Nat)) ∧ Below w.heap.size w w' := by
  have HR := hd hr
  have HN := hd hn
  obtain ⟨res, hres⟩ : ∃ r, splitP l most = r := ⟨_, rfl⟩
  have HP : Hd (splitV l (max most 1) = res) := hd hres
  rw [hres]
  clear hr hn hres
  go_enter Try.func49, Try.ntmps49
  go_wp2_with fail
  all_goals
    go_loopw [5, 6, 7] (fun s5 _ _ wr => ∃ v : Int, s5 = .int .i64 v ∧ 1 ≤ v ∧ Hd (splitV l v = res) ∧ (∃ q, wr = w.drewN q)) (fun s5 _ _ _ => n - (intOf s5).toNat)
    case atStart => exact ⟨max most 1, rfl, by omega, HP, ⟨0, rfl⟩⟩
    case round =>
      obtain ⟨v, rfl, hv1, HS, ⟨q0, rfl⟩⟩ := hrel
      by_cases hlt : v < n
      · obtain ⟨k, rfl⟩ : ∃ k : Nat, v = k := ⟨v.toNat, by omega⟩
        have hkn : k < n := by omega
        have hkl : k < l.length := by rw [← HN.o]; exact hkn
        obtain ⟨g, o, rfl, hg, hc⟩ := HR.o.at_ (by omega)
        obtain ⟨p, hp⟩ : ∃ p : Nat, k = p + 1 := ⟨k - 1, by omega⟩
        have hpl : p < l.length := by omega
        obtain ⟨x, hx⟩ : ∃ x, l[p]'hpl = x := ⟨_, rfl⟩
        have k1 : w.cell? ⟨g, o + (p * 4 + 1), none⟩ = some (.int .i64 x.ver) := hc _ _ ((flat_at itEnc 4 itEnc_len l p hpl 1 (by omega)).trans (by rw [hx]; rfl))
        rw [← Nat.add_assoc] at k1
        have hgd : l.getD (k - 1) default = x := by rw [hp, Nat.add_sub_cancel, List.getD_eq_getElem?_getD, List.getElem?_eq_getElem hpl, hx]; rfl
        have HCUT : Hd (cutOk l k = !verIs (l.drop k) x.ver) := hd (by unfold cutOk; rw [hgd])
        have HST : Hd ((if cutOk l k = true then k else splitV l ((k : Int) + 1)) = res) := hd (by rw [← splitV_step hkl]; exact HS.o)
        have hpi : (k : Int) - 1 = (p : Int) := by omega
        have hpn : (p : Int) < (n : Int) := by omega
        have hp0 : (0 : Int) ≤ (p : Int) := by omega
        have HCX := hd (fun (j : Nat) (hj : j < l.length) => (show w.cell? ⟨g, o + j * 4 + 1, none⟩ = some (.int .i64 (l[j]'hj).ver) by rw [Nat.add_assoc]; exact hc _ _ ((flat_at itEnc 4 itEnc_len l j hj 1 (by omega)).trans rfl)))
        obtain ⟨xv, hxv⟩ : ∃ q, x.ver = q := ⟨_, rfl⟩
        rw [hxv] at k1 HCUT
        have HB0 := hd (behB_start l k xv)
        clear hc hx hgd hxv hkl hpl HS
        have HKP := hd hp
        clear hp
        have hki : (0 : Int) ≤ (k : Int) := by omega
        go_wp2_with fail
        go_loopw [6, 7] (fun s6 s7 wx => ∃ (j : Nat) (bh : Bool), s7 = .int .i64 j ∧ s6 = .bool bh ∧ k ≤ j ∧ j ≤ n ∧ Hd (behB l k j xv = bh) ∧ (∃ q, wx = w.drewN q)) (fun _ s7 _ => n - (intOf s7).toNat)
        case atStart => exact ⟨k, false, rfl, rfl, Nat.le_refl _, by omega, HB0, ⟨q0, rfl⟩⟩
        case round =>
          obtain ⟨j, bh, rfl, rfl, hkj, hjn, HBH, ⟨q1, rfl⟩⟩ := hrel
          have hji : (0 : Int) ≤ (j : Int) := by omega
          by_cases hjl : j < n
          · have hjli : (j : Int) < (n : Int) := by omega
            have hjl2 : j < l.length := by rw [← HN.o]; exact hjl
            have y1 := HCX.o j hjl2
            obtain ⟨y, hy⟩ : ∃ y, l[j]'hjl2 = y := ⟨_, rfl⟩
            have HSN := hd (behB_snoc (v := xv) hkj hjl2 hy)
            rw [hy] at y1
            obtain ⟨yv, hyv⟩ : ∃ q, y.ver = q := ⟨_, rfl⟩
            rw [hyv] at y1 HSN
            obtain ⟨bq, hbq⟩ : ∃ q : Bool, (yv == xv) = q := ⟨_, rfl⟩
            rw [hbq, HBH.o] at HSN
            clear hjl2 hy hyv
            cases bh with
            | true =>
              have HSN2 : Hd (behB l k (j + 1) xv = true) := hd (by rw [HSN.o]; rfl)
              clear hbq
              go_wp2_with fail
              go_quiet (fail)
              go_wp2
              go_roundw
              case rel => exact ⟨j + 1, true, by go_num, rfl, by omega, by omega, HSN2, ⟨_, rfl⟩⟩
              case measure => simp [intOf]; omega
            | false =>
              have HSN2 : Hd (behB l k (j + 1) xv = bq) := hd (by rw [HSN.o]; rfl)
              go_wp2_with fail
              go_quiet (fail)
              go_wp2
              go_roundw
              case rel => exact ⟨j + 1, bq, by go_num, rfl, by omega, by omega, HSN2, ⟨_, rfl⟩⟩
              case measure => simp [intOf]; omega
          · obtain rfl : j = n := by omega
            have HBF : Hd (cutOk l k = !bh) := hd (by rw [HCUT.o, ← behB_full l k xv, ← HN.o, HBH.o])
            cases bh with
            | true =>
              have HST2 : Hd (splitV l ((k : Int) + 1) = res) := hd (by have := HST.o; rw [HBF.o] at this; simpa using this)
              go_wp2
              go_roundw
              case rel => exact ⟨(k : Int) + 1, by go_num, by omega, HST2, ⟨_, rfl⟩⟩
              case measure => simp [intOf]; omega
            | false =>
              have HST2 : Hd (k = res) := hd (by have := HST.o; rw [HBF.o] at this; simpa using this)
              go_wp2
              go_ret
              exact ⟨ret_int (by have := HST2.o; omega), bdrewN (Below.refl _ _) _⟩
      · have hge : ¬ v < (l.length : Int) := by rw [← HN.o]; exact hlt
        have HE : Hd (n = res) := hd (by rw [← HS.o, splitV_end hge (by omega)]; exact HN.o)
        go_wp2
        go_ret
        exact ⟨ret_int (by have := HE.o; omega), bdrewN (Below.refl _ _) _⟩

end Go.Proofs.Ytbeckfnhgeclnaa
/-
  Page, both.
-/
namespace Go.Proofs.Ytbeckfnhgeclnaa
open Go.RowKit Go.Lib

theorem results_tmp4 {fn : Func} {t u v x : Tmp} (h : fn.results = #[.tmp t, .tmp u, .tmp v, .tmp x]) (tmps : Array Value) (P : Program) (w : World) :
    (results fn tmps).run P w = .ok (.tuple #[tmps.getD t undef, tmps.getD u undef, tmps.getD v undef, tmps.getD x undef]) w := by
  simp [results, h]

theorem splitG_ge (l : List It) : ∀ f n, splitG l f n = l.length ∨ n ≤ splitG l f n
  | 0, _ => .inl rfl
  | f + 1, n => by
    unfold splitG
    split
    · split
      · exact .inr (Nat.le_refl _)
      · rcases splitG_ge l f (n + 1) with h | h
        · exact .inl h
        · exact .inr (by omega)
    · exact .inl rfl
theorem splitP_pos (l : List It) (most : Int) : splitP l most = l.length ∨ 1 ≤ splitP l most := by
  unfold splitP splitV
  rcases splitG_ge l (l.length - (max most 1).toNat) (max most 1).toNat with h | h
  · exact .inl h
  · exact .inr (by omega)
/-- What a page is. -/
def pageN (l : List It) (tok most : Int) : Nat := if tok = 0 then l.length else splitP l most
def pageP (l : List It) (tok most latest : Int) : List It × Int × Bool := if pageN l tok most = l.length then (l, latest, false) else (l.take (pageN l tok most), (l.getD (pageN l tok most - 1) default).ver, true)
def pageR (l : List It) (tok most latest err : Int) : List It × Int × Bool := if err = 0 then pageP l tok most latest else ([], 0, false)
theorem Rds.takeN {w : World} {A : Option Addr} {n : Nat} {l : List It} (h : Rds w A n 4 (itsEnc l)) (m : Nat) (hm : m ≤ n) : Rds w A (l.take m).length 4 (itsEnc (l.take m)) := by
  have hl := h.len
  rw [itsEnc_len'] at hl
  have : (l.take m).length = m := by rw [List.length_take]; omega
  rw [this]
  exact h.takeI m hm

set_option maxRecDepth 100000 in
set_option maxHeartbeats 4000000 in
theorem cpage_calls {B : Nat} {w wr : World} {b1 b2 : Nat} {s1 s2 : Cs} (h : TwoC B w wr b1 b2 s1 s2) (tok most : Int) (hl : s1.ml.length ≤ 1000000) (hlg : s1.log.length ≤ 1000000) :
    Calls Try.prog 50 #[.pointer (some ⟨b1, 0, none⟩), .int .i64 tok, .int .i64 most] wr fun e w' => ∃ l' err A c, e = .returned (.tuple #[.slice A (pageR l' tok most s1.latest err).1.length c, .int .i64 (pageR l' tok most s1.latest err).2.1, .bool (pageR l' tok most s1.latest err).2.2, .int .i64 err]) ∧ SinceIs s1 tok l' err ∧ Rds w' A (pageR l' tok most s1.latest err).1.length 4 (itsEnc (pageR l' tok most s1.latest err).1) ∧ TwoC B w w' b1 b2 s1 s2 ∧ Below wr.heap.size wr w' := by
  have HS := hd (twoc_since1 h tok hl hlg)
  have HLA := hd (fun (w' : World) (h' : TwoC B w w' b1 b2 s1 s2) => (by
    obtain ⟨S, T, ⟨mb, rb, S1, S2, hb, _⟩, _⟩ := h'.ex
    exact hb.at_ 4 rfl : w'.cell? ⟨b1, 4, none⟩ = some (.int .i64 s1.latest)))
  generalize s1.latest = la at *
  clear h
  go_enter Try.func50, Try.ntmps50
  go_wp2_with fail
  refine HS.o.mono ?_
  rintro e w2 ⟨l', err, A, c, rfl, hs, hr, hO, hb⟩
  have HSI := hd hs
  have HROW := hd hr
  have HO := hd hO
  have HB := hd hb
  have hle := since_len hs
  have hcap := hr.cap
  clear hs hr hO hb HS
  by_cases he : err = 0
  · subst he
    have hpr : ∀ la, pageR l' tok most la 0 = pageP l' tok most la := fun la => by unfold pageR; rw [if_pos rfl]
    have HPR := hd hpr
    have HPN : Hd (pageN l' tok most ≤ l'.length ∧ (pageN l' tok most = l'.length ∨ 1 ≤ pageN l' tok most)) := hd (by
      unfold pageN
      split
      · exact ⟨Nat.le_refl _, .inl rfl⟩
      · exact ⟨splitP_le _ _, splitP_pos _ _⟩)
    have HSP := hd (csplit_calls w2 A l'.length c l' most HROW.o.rds rfl (by omega) hcap.1)
    have HPZ : Hd (tok = 0 → pageN l' tok most = l'.length) := hd (fun h => by unfold pageN; rw [if_pos h])
    have HPS : Hd (tok ≠ 0 → splitP l' most = pageN l' tok most) := hd (fun h => by unfold pageN; rw [if_neg h])
    have HPP : Hd (pageP l' tok most la = if pageN l' tok most = l'.length then (l', la, false) else (l'.take (pageN l' tok most), (l'.getD (pageN l' tok most - 1) default).ver, true)) := hd rfl
    obtain ⟨q, hq⟩ : ∃ q, l'.length = q := ⟨_, rfl⟩
    obtain ⟨pn, hpn⟩ : ∃ q, pageN l' tok most = q := ⟨_, rfl⟩
    have HQ := hd hq
    rw [hq] at HPN HSP HPZ HPP HROW hle hcap
    rw [hpn] at HPN HPZ HPS HPP
    simp only [hq]
    clear hq hpn hpr
    have l4 := HLA.o w2 HO.o
    have HSP2 : Hd (tok ≠ 0 → Calls Try.prog 48 #[.slice A q c, .int .i64 most] w2 fun e w' => e = .returned (.int .i64 (pn : Nat)) ∧ Below w2.heap.size w2 w') := hd (fun h => by rw [← HPS.o h]; exact HSP.o)
    clear HSP
    go_upto_if 23 with (fail)
    go_cut [10] from 23 to 26 (fun s10 wx => s10 = .int .i64 (pn : Nat) ∧ Hd (Below w2.heap.size w2 wx))
    case first =>
      by_cases ht : tok = 0
      · have f1 : (tok != 0) = false := by simpa using ht
        have hpq := HPZ.o ht
        clear ht
        subst hpq
        go_wp2_with fail
        go_meet
        exact ⟨rfl, hd (Below.refl _ _)⟩
      · have f1 : (tok != 0) = true := by simpa using ht
        have HC := hd (HSP2.o ht)
        clear ht
        go_wp2_with fail
        refine HC.o.mono ?_
        rintro e w3 ⟨rfl, hb⟩
        have HB3 := hd hb
        clear hb
        go_wp2_with fail
        go_meet
        exact ⟨rfl, HB3⟩
    case rest =>
      obtain ⟨rfl, HB3⟩ := hcut
      have HO3 := hd (HO.o.bel HB3.o)
      have HR3 := hd (HROW.o.below HB3.o)
      have HBF := hd (HB.o.trans (HB3.o.mono HB.o.size))
      have y4 := HLA.o wc HO3.o
      clear HSP2 l4 HO HROW
      by_cases hpq : pn = q
      · have f1 : ((pn : Int) == (q : Int)) = true := by rw [hpq]; simp
        have HP : Hd (pageR l' tok most la 0 = (l', la, false)) := hd (by rw [HPR.o, HPP.o, if_pos hpq])
        clear hpq
        go_wp2_with fail
        go_quiet (fail)
        go_wp2
        (try simp only [Exit.inBlock, Exit.then]); refine bodyPost_ret (results_tmp4 rfl _ _ _) rfl ?_
        exact ⟨l', 0, A, c, by rw [HP.o]; show _ = Ending.returned (.tuple #[.slice A l'.length c, _, _, _]); rw [HQ.o]; rfl, HSI.o, by rw [HP.o]; show Rds _ A l'.length 4 (itsEnc l'); rw [HQ.o]; exact (HR3.o.drewN _).rds, HO3.o.drewN _, bdrewN HBF.o _⟩
      · have f1 : ((pn : Int) == (q : Int)) = false := by simp; omega
        have hp1 : 1 ≤ pn := by have := HPN.o; omega
        obtain ⟨p, rfl⟩ : ∃ p, pn = p + 1 := ⟨pn - 1, by omega⟩
        have hpl : p + 1 < q := by have := HPN.o; omega
        have HPL := hd hpl
        have hpll : p < l'.length := by rw [HQ.o]; omega
        obtain ⟨g, rfl, _, _, hqc, _, hcl, _⟩ := HR3.o.at_ (by omega)
        obtain ⟨v, hv⟩ : ∃ v, (l'[p]'hpll).ver = v := ⟨_, rfl⟩
        have k1 := hcl (p * 4 + 1) _ ((flat_at itEnc 4 itEnc_len l' p hpll 1 (by omega)).trans (by simp [itEnc]; rfl))
        rw [hv] at k1
        have HP : Hd (pageR l' tok most la 0 = (l'.take (p + 1), v, true)) := hd (by
          rw [HPR.o, HPP.o, if_neg hpq]
          simp only [Nat.add_sub_cancel]
          rw [List.getD_eq_getElem?_getD, List.getElem?_eq_getElem hpll, Option.getD_some, hv])
        have hpi : (p : Int) < (q : Int) := by omega
        have hpc : (p : Int) + 1 ≤ (c : Int) := by omega
        have hp0 : (0 : Int) ≤ (p : Int) + 1 := by omega
        have HLT : Hd ((l'.take (p + 1)).length = p + 1) := hd (by rw [List.length_take, HQ.o]; omega)
        clear hpq hcl hv hpll hp1 hpl
        go_wp2_with fail
        go_quiet (fail)
        go_wp2
        (try simp only [Exit.inBlock, Exit.then]); refine bodyPost_ret (results_tmp4 rfl _ _ _) rfl ?_
        exact ⟨l', 0, _, p + 1, by rw [HP.o]; show _ = Ending.returned (.tuple #[.slice _ (l'.take (p + 1)).length _, _, _, _]); rw [HLT.o]; rfl, HSI.o, by rw [HP.o]; exact (HR3.o.drewN _).rds.takeN (p + 1) (by have := HPL.o; omega), HO3.o.drewN _, bdrewN HBF.o _⟩
  · have hen : (err != 0) = true := by simpa using he
    have hpr : pageR l' tok most la err = ([], 0, false) := by unfold pageR; rw [if_neg he]
    have HPR := hd hpr
    clear he hpr
    go_wp2
    (try simp only [Exit.inBlock, Exit.then]); refine bodyPost_ret (results_tmp4 rfl _ _ _) rfl ?_
    refine ⟨l', err, none, 0, by rw [HPR.o]; rfl, HSI.o, by rw [HPR.o]; exact (Row.nil w2 (fun _ => True) 41 4).rds, HO.o, HB.o⟩

theorem RowO.cap {w : World} {S : Nat → Prop} {e : TypeId} {size n c : Nat} {A : Option Addr} {xs : List Value} (h : RowO w S e size A n c xs) : n ≤ c := by
  rcases h with h | ⟨rfl, rfl, rfl⟩
  · exact h.cap.1
  · exact Nat.le_refl _
theorem RowO.pos {w : World} {S : Nat → Prop} {e : TypeId} {size n c : Nat} {A : Option Addr} {xs : List Value} (h : RowO w S e size A n c xs) (hn : 0 < n) : Row w S e size A n c xs := by
  rcases h with h | ⟨rfl, _, _⟩
  · exact h
  · omega
theorem RowO.below {w w' : World} {S : Nat → Prop} {e : TypeId} {size n c : Nat} {A : Option Addr} {xs : List Value} (h : RowO w S e size A n c xs) (hb : Below w.heap.size w w') : RowO w' S e size A n c xs := h.imp (fun h => h.below hb) id
theorem outR_len (ml : ML Ce) (tok : Int) : ∀ l : List Ch, (outR ml tok l).length ≤ l.length := by
  refine ind_snoc (by simp [outR]) fun l x ih => ?_
  rw [outR_snoc]
  have := stepR_len ml tok (outR ml tok l) x
  rw [List.length_append, List.length_singleton]
  omega
theorem rsince_len {s : Cs} {tok : Int} {l' : List It} {err : Int} (h : RSinceIs s tok l' err) : l'.length ≤ s.ml.length ∨ l'.length ≤ s.log.length := by
  rcases h with ⟨_, _, h⟩ | ⟨_, _, _, h⟩ | ⟨_, _, _, h⟩
  · left; rw [h.1.length_eq, liveL_len]; exact Nat.le_refl _
  · left; rw [h]; exact Nat.zero_le _
  · right; rw [h.1.length_eq]; have := outR_len s.ml tok s.log.reverse; simpa using this

set_option maxRecDepth 100000 in
set_option maxHeartbeats 4000000 in
theorem rpage_calls {B : Nat} {w wr : World} {b1 b2 : Nat} {s1 s2 : Cs} (h : TwoC B w wr b1 b2 s1 s2) (tok most : Int) (hl : s2.ml.length ≤ 1000000) (hlg : s2.log.length ≤ 1000000) :
    Calls Try.prog 51 #[.pointer (some ⟨b2, 0, none⟩), .int .i64 tok, .int .i64 most] wr fun e w' => ∃ l' err A c, e = .returned (.tuple #[.slice A (pageR l' tok most s2.latest err).1.length c, .int .i64 (pageR l' tok most s2.latest err).2.1, .bool (pageR l' tok most s2.latest err).2.2, .int .i64 err]) ∧ RSinceIs s2 tok l' err ∧ Rds w' A (pageR l' tok most s2.latest err).1.length 4 (itsEnc (pageR l' tok most s2.latest err).1) ∧ TwoC B w w' b1 b2 s1 s2 ∧ Below wr.heap.size wr w' := by
  have HS := hd (twoc_since2o h tok hl hlg)
  have HLA := hd (fun (w' : World) (h' : TwoC B w w' b1 b2 s1 s2) => (by
    obtain ⟨S, T, _, ⟨A0, c0, A00, c00, hb, _⟩, _⟩ := h'.ex
    exact hb.at_ 4 rfl : w'.cell? ⟨b2, 4, none⟩ = some (.int .i64 s2.latest)))
  generalize s2.latest = la at *
  clear h
  go_enter Try.func51, Try.ntmps51
  go_wp2_with fail
  refine HS.o.mono ?_
  rintro e w2 ⟨l', err, A, c, rfl, hs, hr, hO, hb⟩
  have HSI := hd hs
  have HROW := hd hr
  have HO := hd hO
  have HB := hd hb
  have hle := rsince_len hs
  have hcap := RowO.cap hr
  clear hs hr hO hb HS
  by_cases he : err = 0
  · subst he
    have hpr : ∀ la, pageR l' tok most la 0 = pageP l' tok most la := fun la => by unfold pageR; rw [if_pos rfl]
    have HPR := hd hpr
    have HPN : Hd (pageN l' tok most ≤ l'.length ∧ (pageN l' tok most = l'.length ∨ 1 ≤ pageN l' tok most)) := hd (by
      unfold pageN
      split
      · exact ⟨Nat.le_refl _, .inl rfl⟩
      · exact ⟨splitP_le _ _, splitP_pos _ _⟩)
    have HSP := hd (rsplit_calls w2 A l'.length c l' most (RowO.rds HROW.o) rfl (by omega))
    have HPZ : Hd (tok = 0 → pageN l' tok most = l'.length) := hd (fun h => by unfold pageN; rw [if_pos h])
    have HPS : Hd (tok ≠ 0 → splitP l' most = pageN l' tok most) := hd (fun h => by unfold pageN; rw [if_neg h])
    have HPP : Hd (pageP l' tok most la = if pageN l' tok most = l'.length then (l', la, false) else (l'.take (pageN l' tok most), (l'.getD (pageN l' tok most - 1) default).ver, true)) := hd rfl
    obtain ⟨q, hq⟩ : ∃ q, l'.length = q := ⟨_, rfl⟩
    obtain ⟨pn, hpn⟩ : ∃ q, pageN l' tok most = q := ⟨_, rfl⟩
    have HQ := hd hq
    rw [hq] at HPN HSP HPZ HPP HROW hle hcap
    rw [hpn] at HPN HPZ HPS HPP
    simp only [hq]
    clear hq hpn hpr
    have l4 := HLA.o w2 HO.o
    have HSP2 : Hd (tok ≠ 0 → Calls Try.prog 49 #[.slice A q c, .int .i64 most] w2 fun e w' => e = .returned (.int .i64 (pn : Nat)) ∧ Below w2.heap.size w2 w') := hd (fun h => by rw [← HPS.o h]; exact HSP.o)
    clear HSP
    go_upto_if 25 with (fail)
    go_cut [12] from 25 to 28 (fun s10 wx => s10 = .int .i64 (pn : Nat) ∧ Hd (Below w2.heap.size w2 wx))
    case first =>
      by_cases ht : tok = 0
      · have f1 : (tok != 0) = false := by simpa using ht
        have hpq := HPZ.o ht
        clear ht
        subst hpq
        go_wp2_with fail
        go_meet
        exact ⟨rfl, hd (Below.refl _ _)⟩
      · have f1 : (tok != 0) = true := by simpa using ht
        have HC := hd (HSP2.o ht)
        clear ht
        go_wp2_with fail
        refine HC.o.mono ?_
        rintro e w3 ⟨rfl, hb⟩
        have HB3 := hd hb
        clear hb
        go_wp2_with fail
        go_meet
        exact ⟨rfl, HB3⟩
    case rest =>
      obtain ⟨rfl, HB3⟩ := hcut
      have HO3 := hd (HO.o.bel HB3.o)
      have HR3 := hd (RowO.below HROW.o HB3.o)
      have HBF := hd (HB.o.trans (HB3.o.mono HB.o.size))
      have y4 := HLA.o wc HO3.o
      clear HSP2 l4 HO HROW
      by_cases hpq : pn = q
      · have f1 : ((pn : Int) == (q : Int)) = true := by rw [hpq]; simp
        have HP : Hd (pageR l' tok most la 0 = (l', la, false)) := hd (by rw [HPR.o, HPP.o, if_pos hpq])
        clear hpq
        go_wp2_with fail
        go_quiet (fail)
        go_wp2
        (try simp only [Exit.inBlock, Exit.then]); refine bodyPost_ret (results_tmp4 rfl _ _ _) rfl ?_
        exact ⟨l', 0, A, c, by rw [HP.o]; show _ = Ending.returned (.tuple #[.slice A l'.length c, _, _, _]); rw [HQ.o]; rfl, HSI.o, by rw [HP.o]; show Rds _ A l'.length 4 (itsEnc l'); rw [HQ.o]; exact RowO.rds (RowO.drewN HR3.o _), HO3.o.drewN _, bdrewN HBF.o _⟩
      · have f1 : ((pn : Int) == (q : Int)) = false := by simp; omega
        have hp1 : 1 ≤ pn := by have := HPN.o; omega
        obtain ⟨p, rfl⟩ : ∃ p, pn = p + 1 := ⟨pn - 1, by omega⟩
        have hpl : p + 1 < q := by have := HPN.o; omega
        have HPL := hd hpl
        have hpll : p < l'.length := by rw [HQ.o]; omega
        obtain ⟨g, rfl, _, _, hqc, _, hcl, _⟩ := (RowO.pos HR3.o (by omega)).at_ (by omega)
        obtain ⟨v, hv⟩ : ∃ v, (l'[p]'hpll).ver = v := ⟨_, rfl⟩
        have k1 := hcl (p * 4 + 1) _ ((flat_at itEnc 4 itEnc_len l' p hpll 1 (by omega)).trans (by simp [itEnc]; rfl))
        rw [hv] at k1
        have HP : Hd (pageR l' tok most la 0 = (l'.take (p + 1), v, true)) := hd (by
          rw [HPR.o, HPP.o, if_neg hpq]
          simp only [Nat.add_sub_cancel]
          rw [List.getD_eq_getElem?_getD, List.getElem?_eq_getElem hpll, Option.getD_some, hv])
        have hpi : (p : Int) < (q : Int) := by omega
        have hpc : (p : Int) + 1 ≤ (c : Int) := by omega
        have hp0 : (0 : Int) ≤ (p : Int) + 1 := by omega
        have HLT : Hd ((l'.take (p + 1)).length = p + 1) := hd (by rw [List.length_take, HQ.o]; omega)
        clear hpq hcl hv hpll hp1 hpl
        go_wp2_with fail
        go_quiet (fail)
        go_wp2
        (try simp only [Exit.inBlock, Exit.then]); refine bodyPost_ret (results_tmp4 rfl _ _ _) rfl ?_
        exact ⟨l', 0, _, _, by rw [HP.o]; show _ = Ending.returned (.tuple #[.slice _ (l'.take (p + 1)).length _, _, _, _]); rw [HLT.o]; rfl, HSI.o, by rw [HP.o]; exact (RowO.rds (RowO.drewN HR3.o _)).takeN (p + 1) (by have := HPL.o; omega), HO3.o.drewN _, bdrewN HBF.o _⟩
  · have hen : (err != 0) = true := by simpa using he
    have hpr : pageR l' tok most la err = ([], 0, false) := by unfold pageR; rw [if_neg he]
    have HPR := hd hpr
    clear he hpr
    go_wp2
    (try simp only [Exit.inBlock, Exit.then]); refine bodyPost_ret (results_tmp4 rfl _ _ _) rfl ?_
    refine ⟨l', err, none, 0, by rw [HPR.o]; rfl, HSI.o, by rw [HPR.o]; exact (Row.nil w2 (fun _ => True) 41 4).rds, HO.o, HB.o⟩

end Go.Proofs.Ytbeckfnhgeclnaa
/-
  A copy that goes page by page: plainly.
-/
namespace Go.Proofs.Ytbeckfnhgeclnaa
open Go.RowKit Go.Lib

def asIt (u : List UInt8) (c : Ce) : It := ⟨u, c.ver, false, c.text⟩
/-- At u the copy has what the collection has. -/
def Fits (s : Cs) (H : ML It) (u : List UInt8) : Prop := getM H u = (getM s.ml u).map (asIt u)
/-- What changed last by t is in the copy as it is. -/
def Upto (s : Cs) (H : ML It) (t : Int) : Prop := ∀ u, (∀ x, lastTok s.log u = some x → x ≤ t) → Fits s H u
def CopyOf (s : Cs) (H : ML It) (t : Int) : Prop := t < s.horizon ∨ Upto s H t
theorem Cs.hor_ge (s : Cs) : s.horizon ≤ s.hor := by
  unfold Cs.hor
  split
  · omega
  · exact Int.le_refl _
theorem Cs.step_hor (s : Cs) (o : OpV) (t : Int) : s.horizon ≤ (s.step o t).2.horizon := by
  unfold Cs.step
  split
  · exact Int.le_refl _
  · exact s.hor_ge
theorem Cs.step_latest {s : Cs} (o : OpV) {t : Int} (h : s.latest ≤ t) : s.latest ≤ (s.step o t).2.latest ∧ (s.step o t).2.latest ≤ t := by
  unfold Cs.step
  split
  · exact ⟨Int.le_refl _, h⟩
  · exact ⟨h, Int.le_refl _⟩
theorem lastTok_head {l : List Ch} {x : Ch} {u : List UInt8} {t : Int} (h : lastTok (x :: l) u = some t) : lastTok l u = some t ∨ (lastTok l u = none ∧ x.2 = u ∧ t = x.1) := by
  unfold lastTok at h ⊢
  rw [List.reverse_cons, List.find?_append] at h
  cases hf : l.reverse.find? (fun x => x.2 == u) with
  | some y => rw [hf] at h; left; simpa using h
  | none =>
    rw [hf] at h
    right
    by_cases hx : x.2 = u
    · simp [hx] at h; exact ⟨rfl, hx, h.symm⟩
    · simp [hx] at h
theorem step_copy {s : Cs} (hok : s.Ok) {H : ML It} {t T : Int} (h : CopyOf s H t) (hT : t < T) (o : OpV) : CopyOf (s.step o T).2 H t := by
  rcases h with h | h
  · exact .inl (Int.lt_of_lt_of_le h (s.step_hor o T))
  · unfold Cs.step
    cases hn : s.no o T with
    | true => exact .inr h
    | false =>
      show CopyOf (s.app o T) H t
      by_cases c : pushFull s.cap s.log = true ∧ t < (s.log.headD (0, [])).1
      · left
        show t < s.hor
        unfold Cs.hor
        rw [if_pos c.1]
        omega
      · right
        intro u hu
        have hu : ∀ x, lastTok (pushL s.cap s.log (T, o.uid)) u = some x → x ≤ t := hu
        show getM H u = (getM (s.mls o T) u).map (asIt u)
        unfold pushL at hu
        rw [lastTok_snoc] at hu
        by_cases he : o.uid = u
        · rw [if_pos he] at hu
          have := hu T rfl
          omega
        · rw [if_neg he] at hu
          rw [mls_get hok.rise, if_neg (fun e => he e.symm)]
          refine h u fun x hx => ?_
          by_cases hf : pushFull s.cap s.log = true
          · rw [if_pos hf] at hu
            have hh : ¬ t < (s.log.headD (0, [])).1 := fun hlt => c ⟨hf, hlt⟩
            cases hlog : s.log with
            | nil => rw [hlog] at hx; simp [lastTok] at hx
            | cons y l =>
              rw [hlog] at hx hu hh
              rcases lastTok_head hx with h1 | ⟨_, _, h3⟩
              · exact hu x h1
              · simp only [List.headD_cons] at hh; omega
          · rw [if_neg hf] at hu
            exact hu x hx

/-- What is told, as a set. -/
theorem outR_all (ml : ML Ce) (tok : Int) : ∀ l : List Ch, ∀ x ∈ l, tok < x.1 → ∃ y ∈ outR ml tok l, y.uid = x.2 := by
  refine ind_snoc (fun x hx => by cases hx) fun l z ih x hx hlt => ?_
  rw [outR_snoc]
  unfold stepR
  rcases List.mem_append.1 hx with hx | hx
  · obtain ⟨y, hy, he⟩ := ih x hx hlt
    split
    · exact ⟨y, hy, he⟩
    · exact ⟨y, List.mem_append_left _ hy, he⟩
  · rw [List.mem_singleton] at hx
    subst hx
    by_cases hs : seenR (outR ml tok l) x.2 = true
    · rw [if_pos (.inr hs)]
      unfold seenR at hs
      rw [List.any_eq_true] at hs
      obtain ⟨y, hy, he⟩ := hs
      exact ⟨y, hy, by simpa using he⟩
    · rw [if_neg (by rintro (h | h); omega; exact hs h)]
      exact ⟨itAt ml x, by simp, itAt_uid ml x⟩
theorem lastTok_mem {l : List Ch} {u : List UInt8} {t : Int} (h : lastTok l u = some t) : (t, u) ∈ l := by
  unfold lastTok at h
  obtain ⟨x, hx, rfl⟩ := Option.map_eq_some_iff.1 h
  have h1 := List.find?_some hx
  have h2 := List.mem_of_find?_eq_some hx
  have : x.2 = u := by simpa using h1
  subst this
  simpa using h2
/-- An item of what is told: the last of its UID, as the collection has it. -/
structure Last (s : Cs) (t : Int) (y : It) : Prop where
  tok : lastTok s.log y.uid = some y.ver
  is : itLeft y = (getM s.ml y.uid).map (asIt y.uid)
  new : t < y.ver
theorem out_last {s : Cs} (hv : s.Ver) (ht : s.Tok) (tok : Int) : ∀ y ∈ outR s.ml tok s.log.reverse, Last s tok y := by
  intro y hy
  obtain ⟨x, hx, rfl, h1, h2⟩ := outR_mem s.ml tok _ ht.falls y hy
  have hl : lastTok s.log x.2 = some x.1 := by unfold lastTok; rw [h2]; rfl
  unfold itAt
  by_cases hh : hasM s.ml x.2 = true
  · have hver := hv x.2 x.1 hl hh
    have hg := get_some hh
    rw [if_pos hh]
    refine ⟨?_, ?_, ?_⟩
    · show lastTok s.log x.2 = some (verM s.ml x.2)
      rw [hl, hver]
    · show itLeft ⟨x.2, verM s.ml x.2, false, txtM s.ml x.2⟩ = (getM s.ml x.2).map (asIt x.2)
      rw [hg]
      rfl
    · show tok < verM s.ml x.2
      rw [hver]
      exact h1
  · rw [if_neg hh]
    refine ⟨hl, ?_, h1⟩
    show itLeft ⟨x.2, x.1, true, []⟩ = (getM s.ml x.2).map (asIt x.2)
    have : getM s.ml x.2 = none := by
      unfold hasM at hh
      cases hg : getM s.ml x.2 with
      | none => rfl
      | some v => rw [hg] at hh; exact absurd rfl hh
    rw [this]
    rfl
/-- What Since tells: the list, its order, nothing left out. -/
structure Whole (s : Cs) (t : Int) (L : List It) : Prop where
  last : ∀ y ∈ L, Last s t y
  all : ∀ u x, lastTok s.log u = some x → t < x → ∃ y ∈ L, y.uid = u
  uniq : Uniq L
  next : L.Pairwise Next
theorem since_whole {s : Cs} (hg : s.Good) (ht : s.Tok) {tok : Int} {L : List It} {err : Int} (h : SinceIs s tok L err) (h0 : tok ≠ 0) (he : err = 0) : Whole s tok L ∧ s.horizon ≤ tok ∧ tok ≤ s.latest := by
  rcases h with ⟨a, b, c⟩ | ⟨a, b, c, d⟩ | ⟨a, b, c, d⟩
  · exact absurd a h0
  · rw [c] at he; cases he
  · rw [outP_eq _ _ _ ht.falls] at d
    have hap := outR_apart s.ml tok s.log.reverse
    refine ⟨⟨fun y hy => out_last hg.ver ht tok y (d.1.mem_iff.1 hy), fun u x hx hlt => ?_, (d.1.pairwise_iff (R := fun x y : It => x.uid ≠ y.uid) (fun h e => h e.symm)).2 hap, sorted_next d hap⟩, ?_, ?_⟩
    · obtain ⟨y, hy, he⟩ := outR_all s.ml tok s.log.reverse (x, u) (List.mem_reverse.2 (lastTok_mem hx)) hlt
      exact ⟨y, d.1.mem_iff.2 hy, he⟩
    · unfold Cs.bad at b; simp at b; omega
    · unfold Cs.bad at b; simp at b; omega

theorem splitG_cut (l : List It) : ∀ f n, splitG l f n = l.length ∨ cutOk l (splitG l f n) = true
  | 0, _ => .inl rfl
  | f + 1, n => by
    unfold splitG
    split
    · split
      · exact .inr (by assumption)
      · exact splitG_cut l f (n + 1)
    · exact .inl rfl
theorem splitP_cut (l : List It) (most : Int) : splitP l most = l.length ∨ cutOk l (splitP l most) = true := splitG_cut _ _ _
theorem next_le {x y : It} (h : Next x y) : x.ver ≤ y.ver := by
  rcases h with h | h
  · omega
  · exact Int.le_of_eq h.1
theorem fold_whole {s : Cs} {t : Int} {L : List It} (hw : Whole s t L) {H : ML It} (hr : Rising H) (h : Upto s H t) : ∀ u, Fits s (foldIts H L) u := by
  intro u
  obtain ⟨h1, h2⟩ := foldIts_get hr hw.uniq u
  unfold Fits
  by_cases hx : ∃ y ∈ L, y.uid = u
  · obtain ⟨y, hy, rfl⟩ := hx
    rw [h1 y hy rfl]
    exact (hw.last y hy).is
  · have hn : ∀ y ∈ L, y.uid ≠ u := fun y hy e => hx ⟨y, hy, e⟩
    rw [h2 hn]
    refine h u fun x hl => ?_
    by_cases c : t < x
    · obtain ⟨y, hy, e⟩ := hw.all u x hl c
      exact absurd e (hn y hy)
    · omega
/-- How many changes are behind t. -/
def cnt (s : Cs) (t : Int) : Nat := s.log.countP fun x => decide (t < x.1)
theorem countP_lt {α : Type} {p q : α → Bool} : ∀ {l : List α}, (∀ x ∈ l, p x = true → q x = true) → (∃ x ∈ l, q x = true ∧ p x = false) → l.countP p < l.countP q
  | [], _, ⟨x, hx, _⟩ => by cases hx
  | a :: l, h1, ⟨x, hx, h2, h3⟩ => by
    have hle : l.countP p ≤ l.countP q := List.countP_mono_left fun y hy => h1 y (List.mem_cons_of_mem _ hy)
    rcases List.mem_cons.1 hx with rfl | hx
    · rw [List.countP_cons_of_pos h2, List.countP_cons_of_neg (by simp [h3])]
      omega
    · have ih := countP_lt (l := l) (fun y hy => h1 y (List.mem_cons_of_mem _ hy)) ⟨x, hx, h2, h3⟩
      rw [List.countP_cons, List.countP_cons]
      by_cases hp : p a = true
      · rw [if_pos hp, if_pos (h1 a (List.mem_cons_self ..) hp)]; omega
      · rw [if_neg hp]; omega
/-- A page taken in. -/
structure Paged (s : Cs) (t : Int) (L p : List It) (t' : Int) (more : Bool) : Prop where
  sub : ∀ y ∈ p, y ∈ L
  uniq : Uniq p
  len : p.length ≤ L.length
  le : t ≤ t'
  lelatest : t' ≤ s.latest
  new : more = true → t < t' ∧ cnt s t' < cnt s t ∧ 1 ≤ cnt s t'
  last : more = false → t' = s.latest
  fits : ∀ H, Rising H → Upto s H t → Upto s (foldIts H p) t'
  done : more = false → ∀ H, Rising H → Upto s H t → ∀ u, Fits s (foldIts H p) u
theorem page_whole {s : Cs} (htk : s.Tok) {t : Int} {L : List It} (hw : Whole s t L) (hle : t ≤ s.latest) (h0 : t ≠ 0) (most : Int) :
    Paged s t L (pageP L t most s.latest).1 (pageP L t most s.latest).2.1 (pageP L t most s.latest).2.2 := by
  unfold pageP
  have hpn : pageN L t most = splitP L most := by unfold pageN; rw [if_neg h0]
  rw [hpn]
  by_cases hq : splitP L most = L.length
  · rw [if_pos hq]
    exact ⟨fun y hy => hy, hw.uniq, Nat.le_refl _, hle, Int.le_refl _, fun h => (by cases h), fun _ => rfl, fun H hr h u _ => fold_whole hw hr h u, fun _ H hr h => fold_whole hw hr h⟩
  · rw [if_neg hq]
    simp only
    have hlt : splitP L most < L.length := by have := splitP_le L most; omega
    have h1 : 1 ≤ splitP L most := (splitP_pos L most).resolve_left hq
    have hcut := (splitP_cut L most).resolve_left hq
    obtain ⟨n, hn⟩ : ∃ n, splitP L most = n := ⟨_, rfl⟩
    rw [hn] at hq hlt h1 hcut ⊢
    have hgd : L.getD (n - 1) default = L[n - 1] := by rw [List.getD_eq_getElem?_getD, List.getElem?_eq_getElem (by omega)]; rfl
    unfold cutOk at hcut
    rw [hgd] at hcut ⊢
    obtain ⟨z, hz⟩ : ∃ z, L[n - 1] = z := ⟨_, rfl⟩
    have hzm : z ∈ L := hz ▸ List.getElem_mem _
    rw [hz] at hcut ⊢
    have hpw := List.pairwise_iff_getElem.1 hw.next
    have hlow : ∀ y ∈ L.take n, y.ver ≤ z.ver := fun y hy => by
      obtain ⟨i, hi, rfl⟩ := List.getElem_of_mem hy
      rw [List.getElem_take]
      have hi2 : i < n := by rw [List.length_take] at hi; omega
      by_cases c : i = n - 1
      · subst c; rw [hz]; exact Int.le_refl _
      · have := next_le (hpw i (n - 1) (by omega) (by omega) (by omega))
        rw [hz] at this
        exact this
    have hhigh : ∀ y ∈ L.drop n, z.ver < y.ver := fun y hy => by
      have hne : y.ver ≠ z.ver := fun e => by
        have : verIs (L.drop n) z.ver = true := by
          unfold verIs
          rw [List.any_eq_true]
          exact ⟨y, hy, by simpa using e⟩
        rw [this] at hcut
        cases hcut
      obtain ⟨i, hi, rfl⟩ := List.getElem_of_mem hy
      rw [List.length_drop] at hi
      rw [List.getElem_drop] at hne ⊢
      have := next_le (hpw (n - 1) (n + i) (by omega) (by omega) (by omega))
      rw [hz] at this
      omega
    have hzt := (hw.last z hzm)
    have hzmem := lastTok_mem hzt.tok
    have hzl := htk.le _ hzmem
    simp only at hzl
    have hzn := hzt.new
    refine ⟨fun y hy => List.mem_of_mem_take hy, ?_, ?_, by omega, hzl, fun _ => ⟨hzn, ?_, ?_⟩, fun h => (by cases h), fun H hr h u hu => ?_, fun h => by cases h⟩
    · exact List.Pairwise.sublist (List.take_sublist _ _) hw.uniq
    · rw [List.length_take]; omega
    · exact countP_lt (fun x _ h => by simp at h ⊢; omega) ⟨_, hzmem, by simp; omega, by simp⟩
    · obtain ⟨y, hy⟩ : ∃ y, y ∈ L.drop n := ⟨(L.drop n)[0]'(by rw [List.length_drop]; omega), List.getElem_mem _⟩
      have h3 := hhigh y hy
      have h4 := lastTok_mem (hw.last y (List.mem_of_mem_drop hy)).tok
      exact List.countP_pos_iff.2 ⟨_, h4, by simpa using h3⟩
    · have hut : Uniq (L.take n) := List.Pairwise.sublist (List.take_sublist _ _) hw.uniq
      obtain ⟨g1, g2⟩ := foldIts_get hr hut u
      unfold Fits
      by_cases hx : ∃ y ∈ L.take n, y.uid = u
      · obtain ⟨y, hy, rfl⟩ := hx
        rw [g1 y hy rfl]
        exact (hw.last y (List.mem_of_mem_take hy)).is
      · have hno : ∀ y ∈ L.take n, y.uid ≠ u := fun y hy e => hx ⟨y, hy, e⟩
        rw [g2 hno]
        refine h u fun x hl => ?_
        by_cases c : t < x
        · exfalso
          obtain ⟨y, hy, e⟩ := hw.all u x hl c
          have hv := (hw.last y hy).tok
          rw [e, hl] at hv
          have hv : x = y.ver := Option.some.inj hv
          have hxz := hu x hl
          rw [← List.take_append_drop n L] at hy
          rcases List.mem_append.1 hy with hy | hy
          · exact hno y hy e
          · have := hhigh y hy; omega
        · omega
/-- All cards, folded into nothing. -/
theorem fold_live {s : Cs} (hr : Rising s.ml) {L : List It} (h : SortedOf (liveL s.ml) L) : ∀ u, Fits s (foldIts [] L) u := by
  intro u
  have hu : Uniq L := (h.1.pairwise_iff (R := fun x y : It => x.uid ≠ y.uid) (fun h e => h e.symm)).2 (live_apart hr)
  obtain ⟨h1, h2⟩ := foldIts_get (ml := []) List.Pairwise.nil hu u
  unfold Fits
  cases hg : getM s.ml u with
  | some v =>
    have hm := getM_mem hg
    have hx : itOf (u, v) ∈ L := h.1.mem_iff.2 (List.mem_map.2 ⟨_, hm, rfl⟩)
    rw [h1 _ hx rfl]
    rfl
  | none =>
    rw [h2 fun y hy e => ?_]
    · rfl
    · obtain ⟨z, hz, rfl⟩ := List.mem_map.1 (h.1.mem_iff.1 hy)
      have := get_mem hr hz
      have e : z.1 = u := e
      rw [e, hg] at this
      cases this
/-- A copy that fits everywhere shows the collection's cards. -/
theorem fits_live {s : Cs} (hr : Rising s.ml) {H : ML It} (hH : Rising H) (h : ∀ u, Fits s H u) : H.map (·.2) = liveL s.ml := by
  have hr2 : Rising (s.ml.map fun e => (e.1, asIt e.1 e.2)) := by
    unfold Rising
    rw [List.pairwise_map]
    exact hr
  have hg : ∀ (ml : ML Ce) k, getM (ml.map fun e => (e.1, asIt e.1 e.2)) k = (getM ml k).map (asIt k) := by
    intro ml k
    induction ml with
    | nil => rfl
    | cons e ml ih =>
      rw [List.map_cons]
      by_cases he : e.1 = k
      · rw [getM_cons_eq he, getM_cons_eq (x := (e.1, asIt e.1 e.2)) he, he]; rfl
      · rw [getM_cons_ne he, getM_cons_ne (x := (e.1, asIt e.1 e.2)) he, ih]
  have e : H = s.ml.map fun e => (e.1, asIt e.1 e.2) := rising_ext hH hr2 fun k => by rw [hg]; exact h k
  rw [e, List.map_map]
  rfl
theorem cnt_step {s : Cs} (o : OpV) (T t : Int) : cnt (s.step o T).2 t ≤ cnt s t + 1 := by
  unfold Cs.step
  split
  · exact Nat.le_succ _
  · show (pushL s.cap s.log (T, o.uid)).countP _ ≤ _
    unfold pushL cnt
    rw [List.countP_append]
    have h1 : (if pushFull s.cap s.log = true then s.log.drop 1 else s.log).countP (fun x => decide (t < x.1)) ≤ s.log.countP (fun x => decide (t < x.1)) := by
      split
      · exact (List.drop_sublist 1 s.log).countP_le
      · exact Nat.le_refl _
    have h2 : [(T, o.uid)].countP (fun x => decide (t < x.1)) ≤ 1 := by rw [List.countP_singleton]; split <;> omega
    omega
theorem cnt_latest {s : Cs} (h : s.Tok) : cnt s s.latest = 0 := by
  unfold cnt
  rw [List.countP_eq_zero]
  intro x hx
  have := h.le x hx
  simp
  omega
/-- Versions from 1 on. -/
structure Cs.Pos (s : Cs) : Prop where
  ml : ∀ e ∈ s.ml, 1 ≤ e.2.ver
  latest : 1 ≤ s.latest
theorem Cs.step_pos {s : Cs} (h : s.Pos) (hok : s.Ok) (o : OpV) {T : Int} (hT : 1 ≤ T) : (s.step o T).2.Pos := by
  unfold Cs.step
  split
  · exact h
  · refine ⟨fun e he => ?_, hT⟩
    have he : e ∈ s.mls o T := he
    unfold Cs.mls at he
    split at he
    · exact h.ml e ((delM_spec o.uid hok.rise).2.2 e he)
    · rcases (putM_spec o.uid ⟨T, o.card⟩ hok.rise).2.2 e he with rfl | he
      · exact hT
      · exact h.ml e he

end Go.Proofs.Ytbeckfnhgeclnaa
/-
  henkeep.Fold, plainly: an item folded into cards that rise by UID.
-/
namespace Go.Proofs.Ytbeckfnhgeclnaa
open Go.RowKit Go.Lib

def stepL (x : It) (st : List It × Bool) (y : It) : List It × Bool :=
  if y.uid = x.uid then st else if st.2 = false ∧ compareBytes x.uid y.uid < 0 then (st.1 ++ [x, y], true) else (st.1 ++ [y], st.2)
def endL (x : It) (st : List It × Bool) : List It := if st.2 = true then st.1 else st.1 ++ [x]
def foldL (l : List It) (x : It) : List It := endL x (l.foldl (stepL x) ([], x.gone))
theorem stepL_snoc (x : It) (l : List It) (k : Nat) (h : k < l.length) (st : List It × Bool) : (l.take (k + 1)).foldl (stepL x) st = stepL x ((l.take k).foldl (stepL x) st) l[k] := by
  rw [List.take_succ_eq_append_getElem h, List.foldl_append]
  rfl
/-- Cards by UID, none gone. -/
def Cards (H : ML It) : Prop := ∀ e ∈ H, e.2.uid = e.1
theorem fold_done (x : It) : ∀ (H : ML It), Cards H → ∀ out, (H.map (·.2)).foldl (stepL x) (out, true) = (out ++ (H.filter fun e => e.1 ≠ x.uid).map (·.2), true)
  | [], _, out => by simp
  | e :: H, hc, out => by
    have he := hc e (List.mem_cons_self ..)
    have ih := fold_done x H (fun y hy => hc y (List.mem_cons_of_mem _ hy))
    rw [List.map_cons, List.foldl_cons]
    unfold stepL
    by_cases h : e.2.uid = x.uid
    · rw [if_pos h]
      have h2 : ¬ e.1 ≠ x.uid := fun hn => hn (he.symm.trans h)
      rw [List.filter_cons_of_neg (by simpa using h2)]
      exact ih out
    · rw [if_neg h, if_neg (by simp)]
      have h2 : e.1 ≠ x.uid := fun hn => h (he.trans hn)
      rw [List.filter_cons_of_pos (by simpa using h2), List.map_cons]
      have := ih (out ++ [e.2])
      unfold stepL at this
      rw [this]
      simp
theorem filter_all {H : ML It} {u : List UInt8} (h : ∀ e ∈ H, e.1 ≠ u) : (H.filter fun e => e.1 ≠ u) = H := by
  rw [List.filter_eq_self]
  intro e he
  simpa using h e he
theorem above {e : List UInt8 × It} {H : ML It} (hr : Rising (e :: H)) {u : List UInt8} (h : ¬ compareBytes e.1 u < 0) : ∀ y ∈ H, compareBytes u y.1 < 0 := by
  intro y hy
  have h1 := hr.head y hy
  by_cases he : e.1 = u
  · rw [← he]; exact h1
  · exact cmp_trans (cmp_not h he) h1
theorem delM_filter : ∀ {H : ML It} (u : List UInt8), Rising H → delM H u = H.filter fun e => e.1 ≠ u
  | [], u, _ => by simp [delM, hasM, getM]
  | e :: H, u, hr => by
    by_cases h : compareBytes e.1 u < 0
    · rw [delM_cons_lt h, List.filter_cons_of_pos (by simpa using cmp_ne h), delM_filter u hr.tail]
    · have ha := above hr h
      have hf : (H.filter fun e => e.1 ≠ u) = H := filter_all fun y hy he => cmp_ne (ha y hy) he.symm
      by_cases he : e.1 = u
      · rw [List.filter_cons_of_neg (by simpa using he), hf]
        simp [delM, hasM_cons_eq he, place_cons_ge hr h]
      · rw [List.filter_cons_of_pos (by simpa using he), hf]
        simp [delM, hasM_cons_gt hr h he]
/-- Behind the place. -/
theorem fold_above (x : It) : ∀ (H : ML It), Cards H → (∀ y ∈ H, compareBytes x.uid y.1 < 0) → ∀ out, endL x ((H.map (·.2)).foldl (stepL x) (out, false)) = out ++ x :: H.map (·.2)
  | [], _, _, out => by simp [endL]
  | e :: H, hc, ha, out => by
    have he := hc e (List.mem_cons_self ..)
    have h1 := ha e (List.mem_cons_self ..)
    rw [List.map_cons, List.foldl_cons]
    have hs : stepL x (out, false) e.2 = (out ++ [x, e.2], true) := by
      unfold stepL
      rw [if_neg (by rw [he]; exact fun h => cmp_ne h1 h.symm), if_pos ⟨rfl, by rw [he]; exact h1⟩]
    rw [hs, fold_done x H (fun y hy => hc y (List.mem_cons_of_mem _ hy)), filter_all fun y hy hh => cmp_ne (ha y (List.mem_cons_of_mem _ hy)) hh.symm]
    simp [endL]
theorem fold_put (x : It) : ∀ (H : ML It), Rising H → Cards H → ∀ out, endL x ((H.map (·.2)).foldl (stepL x) (out, false)) = out ++ (putM H x.uid x).map (·.2)
  | [], _, _, out => by simp [endL, putM, hasM, getM, place]
  | e :: H, hr, hc, out => by
    have he := hc e (List.mem_cons_self ..)
    have hcH : Cards H := fun y hy => hc y (List.mem_cons_of_mem _ hy)
    by_cases h : compareBytes e.1 x.uid < 0
    · have hs : stepL x (out, false) e.2 = (out ++ [e.2], false) := by
        unfold stepL
        have h2 : ¬ compareBytes x.uid e.1 < 0 := fun h2 => by
          have := cmp_trans h h2
          rw [cmp_self] at this
          omega
        rw [if_neg (by rw [he]; exact cmp_ne h), if_neg (by rw [he]; exact fun hh => h2 hh.2)]
      rw [List.map_cons, List.foldl_cons, hs, fold_put x H hr.tail hcH, putM_cons_lt h]
      simp
    · have ha := above hr h
      by_cases hh : e.1 = x.uid
      · have hs : stepL x (out, false) e.2 = (out, false) := by unfold stepL; rw [if_pos (he.trans hh)]
        rw [List.map_cons, List.foldl_cons, hs, fold_above x H hcH ha]
        have e1 : putM (e :: H) x.uid x = (x.uid, x) :: H := by simp [putM, hasM_cons_eq hh, place_cons_ge hr h]
        rw [e1]
        rfl
      · have e1 : putM (e :: H) x.uid x = (x.uid, x) :: e :: H := by simp [putM, hasM_cons_gt hr h hh, place_cons_ge hr h]
        have h3 : ∀ y ∈ e :: H, compareBytes x.uid y.1 < 0 := fun y hy => by
          rcases List.mem_cons.1 hy with rfl | hy
          · exact cmp_not h hh
          · exact ha y hy
        rw [fold_above x (e :: H) hc h3, e1]
        rfl
theorem foldL_is {H : ML It} (hr : Rising H) (hc : Cards H) (x : It) : foldL (H.map (·.2)) x = (stepIt H x).map (·.2) := by
  obtain ⟨u, v, g, c⟩ := x
  unfold foldL stepIt
  cases g with
  | true =>
    rw [fold_done _ H hc, if_pos rfl, delM_filter u hr]
    simp [endL]
  | false =>
    rw [fold_put ⟨u, v, false, c⟩ H hr hc, if_neg (by simp)]
    simp
theorem stepIt_cards {H : ML It} (hr : Rising H) (hc : Cards H) (x : It) : Cards (stepIt H x) := by
  intro e he
  unfold stepIt at he
  split at he
  · exact hc e ((delM_spec x.uid hr).2.2 e he)
  · rcases (putM_spec x.uid _ hr).2.2 e he with rfl | he
    · rfl
    · exact hc e he
theorem foldL_len (l : List It) (x : It) : (foldL l x).length ≤ l.length + 1 := by
  have h : ∀ (l : List It) (st : List It × Bool), (l.foldl (stepL x) st).1.length + (if (l.foldl (stepL x) st).2 = true then 0 else 1) ≤ st.1.length + l.length + (if st.2 = true then 0 else 1) := by
    intro l
    induction l with
    | nil => intro st; exact Nat.le_refl _
    | cons y l ih =>
      intro st
      have h1 := ih (stepL x st y)
      have h2 : (stepL x st y).1.length + (if (stepL x st y).2 = true then 0 else 1) ≤ st.1.length + 1 + (if st.2 = true then 0 else 1) := by
        unfold stepL
        split
        · omega
        · split
          · rename_i hh; rw [hh.1]; simp
          · simp
      rw [List.foldl_cons, List.length_cons]
      omega
  have := h l ([], x.gone)
  unfold foldL endL
  split
  · rename_i hh
    rw [hh] at this
    simp at this
    split at this <;> omega
  · rename_i hh
    rw [if_neg hh] at this
    rw [List.length_append]
    simp at this ⊢
    split at this <;> omega

end Go.Proofs.Ytbeckfnhgeclnaa
/-
  henkeep.Fold.
-/
namespace Go.Proofs.Ytbeckfnhgeclnaa
open Go.RowKit Go.Lib

theorem foldl_len (x : It) : ∀ (l : List It) (st : List It × Bool), (l.foldl (stepL x) st).1.length ≤ st.1.length + 2 * l.length := by
  intro l
  induction l with
  | nil => intro st; simp
  | cons y l ih =>
    intro st
    have h1 := ih (stepL x st y)
    have h2 : (stepL x st y).1.length ≤ st.1.length + 2 := by
      unfold stepL
      split
      · omega
      · split <;> simp
    rw [List.foldl_cons, List.length_cons]
    omega

theorem fold_fits (m : Nat) (h : m ≤ 2000000) : m + 1 ≤ maxLen ∧ m + 1 + 1 ≤ maxLen ∧ (m + 1) * 48 ≤ 140737488355328 ∧ (m + 1 + 1) * 48 ≤ 140737488355328 := by
  unfold maxLen
  omega

set_option maxRecDepth 100000 in
set_option maxHeartbeats 4000000 in
theorem kfold_calls (w : World) (A : Option Addr) (n c : Nat) (l : List It) (x : It) (hr : Rds w A n 4 (itsEnc l)) (hn : n = l.length) (hm : n ≤ 1000000) :
    Calls Try.prog 53 #[.slice A n c, .agg (itEnc x).toArray] w fun e w' => ∃ A' c', e = .returned (.slice A' (foldL l x).length c') ∧ Row w' (From w.heap.size) 41 4 A' (foldL l x).length c' (itsEnc (foldL l x)) ∧ Below w.heap.size w w' := by
  obtain ⟨i0, hi, hz0, hz1, hz2⟩ := info_parts itInfo
  have HR := hd hr
  have HN := hd hn
  have HONE : Hd (∀ x : It, ∀ z ∈ itEnc x, z.oneCell' = true) := hd itEnc_one
  obtain ⟨F, hF⟩ : ∃ F, foldL l x = F := ⟨_, rfl⟩
  obtain ⟨st, hst⟩ : ∃ f : Nat → List It × Bool, f = fun k => (l.take k).foldl (stepL x) ([], x.gone) := ⟨_, rfl⟩
  have H0 : Hd (st 0 = ([], x.gone)) := hd (by rw [hst]; rfl)
  have HSN : Hd (∀ k (h : k < l.length), st (k + 1) = stepL x (st k) l[k]) := hd (fun k h => by rw [hst]; exact stepL_snoc x l k h _)
  have HEND : Hd (F = endL x (st n)) := hd (by rw [← hF, hst]; simp only [foldL]; rw [List.take_of_length_le (by rw [hn]; exact Nat.le_refl _)])
  have HLEN : Hd (∀ k, (st k).1.length ≤ 2 * k) := hd (fun k => by
    rw [hst]
    have h1 := foldl_len x (l.take k) ([], x.gone)
    have h2 : (l.take k).length ≤ k := by rw [List.length_take]; omega
    simp only [List.length_nil] at h1
    exact Nat.le_trans h1 (by omega))
  rw [hF]
  obtain ⟨xu, xv, xg, xc⟩ := x
  simp only [itEnc] at HONE ⊢
  have hbx := Blk.new w 41 #[.string (bs xu), .int .i64 xv, .bool xg, .string (bs xc)]
  have HW1 : Hd (Below w.heap.size w (w.alloc (.cells #[.string (bs xu), .int .i64 xv, .bool xg, .string (bs xc)] 41))) := hd ((Below.refl _ w).alloc (Nat.le_refl _) _)
  simp only at H0
  clear hr hn hF hst
  go_enter Try.func53, Try.ntmps53
  go_wp2_with fail
  obtain ⟨w1, hw1⟩ : ∃ w1, w1 = w.alloc (.cells #[.string (bs xu), .int .i64 xv, .bool xg, .string (bs xc)] 41) := ⟨_, rfl⟩
  rw [← hw1]
  rw [← hw1] at hbx HW1
  have HBX := hd hbx
  have HSZ : Hd (w1.heap.size = w.heap.size + 1) := hd (by rw [hw1]; simp)
  clear hbx hw1
  have x2 := HBX.o.at_ 2 rfl
  go_wp2_with fail
  clear x2
  go_loopw [7, 5, 6] (fun i so sd wr => ∃ (k m : Nat) (A' : Option Addr) (c' : Nat) (db : Bool), i = .int .i64 k ∧ k ≤ n ∧ so = .slice A' m c' ∧ sd = .bool db ∧ m ≤ 2 * k ∧ Hd ((st k).1.length = m ∧ (st k).2 = db) ∧ Hd (Row wr (From w1.heap.size) 41 4 A' m c' (itsEnc (st k).1)) ∧ Hd (RB w1 wr)) (fun i _ _ _ => n - (intOf i).toNat)
  case atStart => exact ⟨0, 0, none, 0, xg, rfl, Nat.zero_le _, rfl, rfl, Nat.le_refl _, hd (by rw [H0.o]; exact ⟨rfl, rfl⟩), hd (by rw [H0.o]; exact Row.nil _ _ _ _), hd ⟨Below.refl _ _⟩⟩
  case round =>
    obtain ⟨k, m, A', c', db, rfl, hk, rfl, rfl, hmk, HM, HROW, HRB⟩ := hrel
    have hki : (0 : Int) ≤ (k : Int) := by omega
    by_cases hlt : k < n
    · have hlti : (k : Int) < (n : Int) := by omega
      have hkl : k < l.length := by rw [← HN.o]; exact hlt
      obtain ⟨ga, oa, rfl, hga, hc⟩ := HR.o.at_ (by omega)
      obtain ⟨y, hy⟩ : ∃ y, l[k]'hkl = y := ⟨_, rfl⟩
      have hsn := HSN.o k hkl
      rw [hy] at hsn
      obtain ⟨hmm, hmm2, hby, hby2⟩ := fold_fits m (by omega)
      have HSNX := hd hsn
      clear hsn
      have HCELL := hd (fun (W : World) (hW : RB w1 W) (j : Nat) (u : Value) (hj : j < 4) (hv : (itEnc y)[j]? = some u) => ((HW1.o.trans (hW.below.mono (by have := HSZ.o; omega))).cell (p := ⟨ga, oa + (k * 4 + j), none⟩) hga).trans (hc _ _ ((flat_at itEnc 4 itEnc_len l k hkl j hj).trans (by rw [hy]; exact hv))))
      have HBOX := hd (fun (W : World) (hW : RB w1 W) => HBX.o.below hW.below HBX.o.lt)
      obtain ⟨yu, yv, yg, yc⟩ := y
      have heq := rstr_eq yu xu
      have hgl := rstr_less yu xu
      rw [geq_dec, Bool.not_not] at hgl
      have k0 := HCELL.o wr HRB.o 0 _ (by omega) rfl
      rw [← Nat.add_assoc] at k0
      rw [Nat.add_zero] at k0
      have b0 := (HBOX.o wr HRB.o).at_ 0 rfl
      clear hc hy hkl
      by_cases e1 : yu = xu
      · have e1b : decide (yu = xu) = true := by simpa using e1
        rw [e1b] at heq
        have HS2 : Hd (st (k + 1) = st k) := hd (by rw [HSNX.o]; unfold stepL; rw [if_pos e1])
        clear e1 e1b hgl
        go_wp2_with fail
        go_quiet (fail)
        go_wp2
        go_roundw
        case rel => exact ⟨k + 1, m, A', c', db, by go_num, by omega, rfl, rfl, by omega, hd (by rw [HS2.o]; exact HM.o), hd (by rw [HS2.o]; exact HROW.o.drewN _), hd (HRB.o.drewN _)⟩
        case measure => simp [intOf]; omega
      · have e1b : decide (yu = xu) = false := by simpa using e1
        rw [e1b] at heq
        by_cases e2 : db = false ∧ compareBytes xu yu < 0
        · obtain ⟨rfl, e2⟩ := e2
          have hcy : ¬ compareBytes yu xu < 0 := fun h2 => by
            have := cmp_trans e2 h2
            rw [cmp_self] at this
            omega
          have e2b : decide (compareBytes yu xu < 0) = false := by simpa using hcy
          rw [e2b] at hgl
          have HS2 : Hd (st (k + 1) = ((st k).1 ++ [⟨xu, xv, xg, xc⟩, ⟨yu, yv, yg, yc⟩], true)) := hd (by rw [HSNX.o]; unfold stepL; rw [if_neg e1, if_pos ⟨HM.o.2, e2⟩])
          clear e1 e1b e2 e2b hcy
          go_wp2_with fail
          go_quiet (fail)
          obtain ⟨wa, hwa⟩ : ∃ wa, wa = wr.drewN nq := ⟨_, rfl⟩
          have HRBwa : Hd (RB w1 wa) := hd (by rw [hwa]; exact HRB.o.drewN _)
          have HROWwa : Hd (Row wa (From w1.heap.size) 41 4 A' m c' (itsEnc (st k).1)) := hd (by rw [hwa]; exact HROW.o.drewN _)
          rw [← hwa]
          clear hwa
          clear k0 b0
          have k0 := HCELL.o wa HRBwa.o 0 _ (by omega) rfl
          rw [← Nat.add_assoc] at k0
          rw [Nat.add_zero] at k0
          have b0 : wa.cell? ⟨w.heap.size, 0, none⟩ = some (.string (bs xu)) := (HBOX.o wa HRBwa.o).at_ 0 rfl
          go_wp2_with fail
          go_quiet (fail)
          obtain ⟨wj, hwj⟩ : ∃ wj, wj = wa.drewN nq := ⟨_, rfl⟩
          have HRBwj : Hd (RB w1 wj) := hd (by rw [hwj]; exact HRBwa.o.drewN _)
          have HROWwj : Hd (Row wj (From w1.heap.size) 41 4 A' m c' (itsEnc (st k).1)) := hd (by rw [hwj]; exact HROWwa.o.drewN _)
          rw [← hwj]
          clear hwj
          clear k0 b0
          have b0 : wj.cell? ⟨w.heap.size, 0, none⟩ = some (.string (bs xu)) := (HBOX.o wj HRBwj.o).at_ 0 rfl
          have b1 : wj.cell? ⟨w.heap.size, 1, none⟩ = some (.int .i64 xv) := (HBOX.o wj HRBwj.o).at_ 1 rfl
          have b2 : wj.cell? ⟨w.heap.size, 2, none⟩ = some (.bool xg) := (HBOX.o wj HRBwj.o).at_ 2 rfl
          have b3 : wj.cell? ⟨w.heap.size, 3, none⟩ = some (.string (bs xc)) := (HBOX.o wj HRBwj.o).at_ 3 rfl
          have tok1 : True := trivial
          have tok2 : True := trivial
          go_wp2_with (first | (at_builtin; have _t := tok1; refine wpList_append_row rfl _ _ 28 rfl (From w1.heap.size) 41 i0 (.agg #[.string ⟨#[]⟩, .int .i64 0, .bool false, .string ⟨#[]⟩]) 4 48 Try.underlying28 hi hz0 hz1 hz2 rfl A' m c' (itsEnc (st k).1) rfl (HROWwj.o.alloc _) ⟨wj.heap.size, 0, none⟩ 1 1 [.string (bs xu), .int .i64 xv, .bool xg, .string (bs xc)] rfl rfl (cells_at (Blk.new_ _ _ rfl 41 _) rfl) (HONE.o ⟨xu, xv, xg, xc⟩) (by omega) hmm hby ?_; intro E4 eE4 w4 hr4 hc4; have HBw4 := hd (RB.both (w := w1) (HRBwj.o.alloc _) hr4 hc4); have HRBw4 := hd HBw4.o.1; have k0 := HCELL.o w4 HRBw4.o 0 _ (by decide) rfl; have k1 := HCELL.o w4 HRBw4.o 1 _ (by decide) rfl; have k2 := HCELL.o w4 HRBw4.o 2 _ (by decide) rfl; have k3 := HCELL.o w4 HRBw4.o 3 _ (by decide) rfl; rw [← Nat.add_assoc] at k0 k1 k2 k3; rw [Nat.add_zero] at k0; have HROWw4 : Hd (Row w4 (From w1.heap.size) 41 4 E4 (m + 1) eE4 (itsEnc ((st k).1 ++ [⟨xu, xv, xg, xc⟩]))) := hd ((its_app _ _).symm ▸ HBw4.o.2); clear hr4 hc4 tok1) | (at_builtin; have _t := tok2; refine wpList_append_row rfl _ _ 28 rfl (From w1.heap.size) 41 i0 (.agg #[.string ⟨#[]⟩, .int .i64 0, .bool false, .string ⟨#[]⟩]) 4 48 Try.underlying28 hi hz0 hz1 hz2 rfl E4 (m + 1) eE4 (itsEnc ((st k).1 ++ [⟨xu, xv, xg, xc⟩])) rfl (HROWw4.o.alloc _) ⟨w4.heap.size, 0, none⟩ 1 1 [.string (bs yu), .int .i64 yv, .bool yg, .string (bs yc)] rfl rfl (cells_at (Blk.new_ _ _ rfl 41 _) rfl) (HONE.o ⟨yu, yv, yg, yc⟩) (by omega) hmm2 hby2 ?_; intro E5 eE5 w5 hr4 hc4; have HBw5 := hd (RB.both (w := w1) (HRBw4.o.alloc _) hr4 hc4); clear hr4 hc4 tok2))
          have HN : Hd ((st (k + 1)).1.length = m + 1 + 1 ∧ (st (k + 1)).2 = true) := hd (by rw [HS2.o]; exact ⟨by rw [List.length_append, HM.o.1]; rfl, rfl⟩)
          have HN2 : Hd (Row w5 (From w1.heap.size) 41 4 E5 (m + 1 + 1) eE5 (itsEnc (st (k + 1)).1)) := hd (by
            rw [HS2.o]
            show Row _ _ _ _ _ _ _ (itsEnc ((st k).1 ++ [⟨xu, xv, xg, xc⟩, ⟨yu, yv, yg, yc⟩]))
            rw [show (st k).1 ++ [(⟨xu, xv, xg, xc⟩ : It), ⟨yu, yv, yg, yc⟩] = ((st k).1 ++ [⟨xu, xv, xg, xc⟩]) ++ [⟨yu, yv, yg, yc⟩] by simp, its_app]
            exact HBw5.o.2)
          go_roundw
          case rel => exact ⟨k + 1, m + 1 + 1, E5, eE5, true, by go_num, by omega, rfl, rfl, by omega, HN, HN2, hd HBw5.o.1⟩
          case measure => simp [intOf]; omega
        · have HS2 : Hd (st (k + 1) = ((st k).1 ++ [⟨yu, yv, yg, yc⟩], db)) := hd (by rw [HSNX.o]; unfold stepL; rw [if_neg e1, if_neg (by rw [HM.o.2]; exact e2), HM.o.2])
          have HN : Hd ((st (k + 1)).1.length = m + 1 ∧ (st (k + 1)).2 = db) := hd (by rw [HS2.o]; exact ⟨by rw [List.length_append, HM.o.1]; rfl, rfl⟩)
          have HROWQ : Hd (∀ (E : Option Addr) (e : Nat) (w5 : World), Row w5 (From w1.heap.size) 41 4 E (m + 1) e (itsEnc (st k).1 ++ itEnc ⟨yu, yv, yg, yc⟩) → Row w5 (From w1.heap.size) 41 4 E (m + 1) e (itsEnc (st (k + 1)).1)) := hd (fun E e w5 h => by rw [HS2.o, its_app]; exact h)
          go_wp2_with fail
          go_quiet (fail)
          obtain ⟨wa, hwa⟩ : ∃ wa, wa = wr.drewN nq := ⟨_, rfl⟩
          have HRBwa : Hd (RB w1 wa) := hd (by rw [hwa]; exact HRB.o.drewN _)
          have HROWwa : Hd (Row wa (From w1.heap.size) 41 4 A' m c' (itsEnc (st k).1)) := hd (by rw [hwa]; exact HROW.o.drewN _)
          rw [← hwa]
          clear hwa
          clear k0 b0
          cases db with
          | true =>
            clear hgl heq e1 e1b e2 HS2
            go_wp2_with fail
            go_quiet (fail)
            obtain ⟨wj, hwj⟩ : ∃ wj, wj = wa.drewN nq := ⟨_, rfl⟩
            have HRBwj : Hd (RB w1 wj) := hd (by rw [hwj]; exact HRBwa.o.drewN _)
            have HROWwj : Hd (Row wj (From w1.heap.size) 41 4 A' m c' (itsEnc (st k).1)) := hd (by rw [hwj]; exact HROWwa.o.drewN _)
            rw [← hwj]
            clear hwj
            have k0 := HCELL.o wj HRBwj.o 0 _ (by omega) rfl
            have k1 := HCELL.o wj HRBwj.o 1 _ (by omega) rfl
            have k2 := HCELL.o wj HRBwj.o 2 _ (by omega) rfl
            have k3 := HCELL.o wj HRBwj.o 3 _ (by omega) rfl
            rw [← Nat.add_assoc] at k0 k1 k2 k3
            rw [Nat.add_zero] at k0
            have tok2 : True := trivial
            go_wp2_with (at_builtin; have _t := tok2; refine wpList_append_row rfl _ _ 28 rfl (From w1.heap.size) 41 i0 (.agg #[.string ⟨#[]⟩, .int .i64 0, .bool false, .string ⟨#[]⟩]) 4 48 Try.underlying28 hi hz0 hz1 hz2 rfl A' m c' (itsEnc (st k).1) rfl (HROWwj.o.alloc _) ⟨wj.heap.size, 0, none⟩ 1 1 [.string (bs yu), .int .i64 yv, .bool yg, .string (bs yc)] rfl rfl (cells_at (Blk.new_ _ _ rfl 41 _) rfl) (HONE.o ⟨yu, yv, yg, yc⟩) (by omega) hmm hby ?_; intro E5 eE5 w5 hr4 hc4; have HBw5 := hd (RB.both (w := w1) (HRBwj.o.alloc _) hr4 hc4); clear hr4 hc4 tok2)
            go_roundw
            case rel => exact ⟨k + 1, m + 1, E5, eE5, true, by go_num, by omega, rfl, rfl, by omega, HN, hd (HROWQ.o _ _ _ HBw5.o.2), hd HBw5.o.1⟩
            case measure => simp [intOf]; omega
          | false =>
            have hlt2 : decide (compareBytes yu xu < 0) = true := by
              have h2 : ¬ compareBytes xu yu < 0 := fun h => e2 ⟨rfl, h⟩
              simpa using cmp_not h2 (fun h => e1 h.symm)
            rw [hlt2] at hgl
            clear e1 e1b e2 HS2 hlt2
            have k0 := HCELL.o wa HRBwa.o 0 _ (by omega) rfl
            rw [← Nat.add_assoc] at k0
            rw [Nat.add_zero] at k0
            have b0 : wa.cell? ⟨w.heap.size, 0, none⟩ = some (.string (bs xu)) := (HBOX.o wa HRBwa.o).at_ 0 rfl
            go_wp2_with fail
            go_quiet (fail)
            obtain ⟨wj, hwj⟩ : ∃ wj, wj = wa.drewN nq := ⟨_, rfl⟩
            have HRBwj : Hd (RB w1 wj) := hd (by rw [hwj]; exact HRBwa.o.drewN _)
            have HROWwj : Hd (Row wj (From w1.heap.size) 41 4 A' m c' (itsEnc (st k).1)) := hd (by rw [hwj]; exact HROWwa.o.drewN _)
            rw [← hwj]
            clear hwj
            clear k0 b0
            have k0 := HCELL.o wj HRBwj.o 0 _ (by omega) rfl
            have k1 := HCELL.o wj HRBwj.o 1 _ (by omega) rfl
            have k2 := HCELL.o wj HRBwj.o 2 _ (by omega) rfl
            have k3 := HCELL.o wj HRBwj.o 3 _ (by omega) rfl
            rw [← Nat.add_assoc] at k0 k1 k2 k3
            rw [Nat.add_zero] at k0
            have tok2 : True := trivial
            go_wp2_with (at_builtin; have _t := tok2; refine wpList_append_row rfl _ _ 28 rfl (From w1.heap.size) 41 i0 (.agg #[.string ⟨#[]⟩, .int .i64 0, .bool false, .string ⟨#[]⟩]) 4 48 Try.underlying28 hi hz0 hz1 hz2 rfl A' m c' (itsEnc (st k).1) rfl (HROWwj.o.alloc _) ⟨wj.heap.size, 0, none⟩ 1 1 [.string (bs yu), .int .i64 yv, .bool yg, .string (bs yc)] rfl rfl (cells_at (Blk.new_ _ _ rfl 41 _) rfl) (HONE.o ⟨yu, yv, yg, yc⟩) (by omega) hmm hby ?_; intro E5 eE5 w5 hr4 hc4; have HBw5 := hd (RB.both (w := w1) (HRBwj.o.alloc _) hr4 hc4); clear hr4 hc4 tok2)
            go_roundw
            case rel => exact ⟨k + 1, m + 1, E5, eE5, false, by go_num, by omega, rfl, rfl, by omega, HN, hd (HROWQ.o _ _ _ HBw5.o.2), hd HBw5.o.1⟩
            case measure => simp [intOf]; omega
    · obtain rfl : k = n := by omega
      obtain ⟨hmm, _, hby, _⟩ := fold_fits m (by omega)
      have HRBwr := hd HRB.o
      have HBOX := hd (fun (W : World) (hW : RB w1 W) => HBX.o.below hW.below HBX.o.lt)
      have HBF : Hd (∀ W, RB w1 W → Below w.heap.size w W) := hd (fun W hW => HW1.o.trans (hW.below.mono (by have := HSZ.o; omega)))
      have HFR : Hd (∀ q, From w1.heap.size q → From w.heap.size q) := hd (fun q hq => by have h1 : w1.heap.size ≤ q := hq; have h2 := HSZ.o; show w.heap.size ≤ q; omega)
      cases db with
      | true =>
        have HF : Hd (F = (st k).1) := hd (by rw [HEND.o]; unfold endL; rw [if_pos HM.o.2])
        go_wp2
        go_ret
        rw [HF.o, HM.o.1]
        exact ⟨A', c', rfl, HROW.o.mono HFR.o, HBF.o _ HRB.o⟩
      | false =>
        have HF : Hd (F = (st k).1 ++ [⟨xu, xv, xg, xc⟩]) := hd (by rw [HEND.o]; unfold endL; rw [if_neg (by rw [HM.o.2]; simp)])
        have b0 : wr.cell? ⟨w.heap.size, 0, none⟩ = some (.string (bs xu)) := (HBOX.o wr HRBwr.o).at_ 0 rfl
        have b1 : wr.cell? ⟨w.heap.size, 1, none⟩ = some (.int .i64 xv) := (HBOX.o wr HRBwr.o).at_ 1 rfl
        have b2 : wr.cell? ⟨w.heap.size, 2, none⟩ = some (.bool xg) := (HBOX.o wr HRBwr.o).at_ 2 rfl
        have b3 : wr.cell? ⟨w.heap.size, 3, none⟩ = some (.string (bs xc)) := (HBOX.o wr HRBwr.o).at_ 3 rfl
        have tok2 : True := trivial
        go_wp2_with (at_builtin; have _t := tok2; refine wpList_append_row rfl _ _ 28 rfl (From w1.heap.size) 41 i0 (.agg #[.string ⟨#[]⟩, .int .i64 0, .bool false, .string ⟨#[]⟩]) 4 48 Try.underlying28 hi hz0 hz1 hz2 rfl A' m c' (itsEnc (st k).1) rfl (HROW.o.alloc _) ⟨wr.heap.size, 0, none⟩ 1 1 [.string (bs xu), .int .i64 xv, .bool xg, .string (bs xc)] rfl rfl (cells_at (Blk.new_ _ _ rfl 41 _) rfl) (HONE.o ⟨xu, xv, xg, xc⟩) (by omega) hmm hby ?_; intro E5 eE5 w5 hr4 hc4; have HBw5 := hd (RB.both (w := w1) (HRB.o.alloc _) hr4 hc4); clear hr4 hc4 tok2)
        go_ret
        rw [HF.o, its_app, List.length_append, HM.o.1]
        exact ⟨E5, eE5, rfl, HBw5.o.2.mono HFR.o, HBF.o _ HBw5.o.1⟩

end Go.Proofs.Ytbeckfnhgeclnaa
/-
  Page of a law's own collection; folding items.
-/
namespace Go.Proofs.Ytbeckfnhgeclnaa
open Go.RowKit Go.Lib

theorem OwnC.drewN {B : Nat} {w wr : World} {b : Nat} {s : Cs} (h : OwnC B w wr b s) (q : Nat) : OwnC B w (wr.drewN q) b s := h.bel (below_drewN wr q)
theorem ownc_since1 {B : Nat} {w wr : World} {b1 : Nat} {s1 : Cs} (h : OwnC B w wr b1 s1) (tok : Int) (hl : s1.ml.length ≤ 1000000) (hlg : s1.log.length ≤ 1000000) :
    Calls Try.prog 34 #[.pointer (some ⟨b1, 0, none⟩), .int .i64 tok] wr fun e w' => ∃ l' err A c, e = .returned (.tuple #[.slice A l'.length c, .int .i64 err]) ∧ SinceIs s1 tok l' err ∧ Row w' (From wr.heap.size) 41 4 A l'.length c (itsEnc l') ∧ OwnC B w w' b1 s1 ∧ Below wr.heap.size wr w' :=
  (ownc_since h tok hl hlg).mono fun e w' ⟨l', err, A, c, he, hs, hr, hb⟩ => ⟨l', err, A, c, he, hs, hr, h.bel hb, hb⟩
set_option maxRecDepth 100000 in
set_option maxHeartbeats 4000000 in
theorem ownc_page {B : Nat} {w wr : World} {b1 : Nat} {s1 : Cs} (h : OwnC B w wr b1 s1) (tok most : Int) (hl : s1.ml.length ≤ 1000000) (hlg : s1.log.length ≤ 1000000) :
    Calls Try.prog 50 #[.pointer (some ⟨b1, 0, none⟩), .int .i64 tok, .int .i64 most] wr fun e w' => ∃ l' err A c, e = .returned (.tuple #[.slice A (pageR l' tok most s1.latest err).1.length c, .int .i64 (pageR l' tok most s1.latest err).2.1, .bool (pageR l' tok most s1.latest err).2.2, .int .i64 err]) ∧ SinceIs s1 tok l' err ∧ Rds w' A (pageR l' tok most s1.latest err).1.length 4 (itsEnc (pageR l' tok most s1.latest err).1) ∧ OwnC B w w' b1 s1 ∧ Below wr.heap.size wr w' := by
  have HS := hd (ownc_since1 h tok hl hlg)
  have HLA := hd (fun (w' : World) (h' : OwnC B w w' b1 s1) => (by
    obtain ⟨S, ⟨mb, rb, S1, S2, hb, _⟩, _⟩ := h'.ex
    exact hb.at_ 4 rfl : w'.cell? ⟨b1, 4, none⟩ = some (.int .i64 s1.latest)))
  generalize s1.latest = la at *
  clear h
  go_enter Try.func50, Try.ntmps50
  go_wp2_with fail
  refine HS.o.mono ?_
  rintro e w2 ⟨l', err, A, c, rfl, hs, hr, hO, hb⟩
  have HSI := hd hs
  have HROW := hd hr
  have HO := hd hO
  have HB := hd hb
  have hle := since_len hs
  have hcap := hr.cap
  clear hs hr hO hb HS
  by_cases he : err = 0
  · subst he
    have hpr : ∀ la, pageR l' tok most la 0 = pageP l' tok most la := fun la => by unfold pageR; rw [if_pos rfl]
    have HPR := hd hpr
    have HPN : Hd (pageN l' tok most ≤ l'.length ∧ (pageN l' tok most = l'.length ∨ 1 ≤ pageN l' tok most)) := hd (by
      unfold pageN
      split
      · exact ⟨Nat.le_refl _, .inl rfl⟩
      · exact ⟨splitP_le _ _, splitP_pos _ _⟩)
    have HSP := hd (csplit_calls w2 A l'.length c l' most HROW.o.rds rfl (by omega) hcap.1)
    have HPZ : Hd (tok = 0 → pageN l' tok most = l'.length) := hd (fun h => by unfold pageN; rw [if_pos h])
    have HPS : Hd (tok ≠ 0 → splitP l' most = pageN l' tok most) := hd (fun h => by unfold pageN; rw [if_neg h])
    have HPP : Hd (pageP l' tok most la = if pageN l' tok most = l'.length then (l', la, false) else (l'.take (pageN l' tok most), (l'.getD (pageN l' tok most - 1) default).ver, true)) := hd rfl
    obtain ⟨q, hq⟩ : ∃ q, l'.length = q := ⟨_, rfl⟩
    obtain ⟨pn, hpn⟩ : ∃ q, pageN l' tok most = q := ⟨_, rfl⟩
    have HQ := hd hq
    rw [hq] at HPN HSP HPZ HPP HROW hle hcap
    rw [hpn] at HPN HPZ HPS HPP
    simp only [hq]
    clear hq hpn hpr
    have l4 := HLA.o w2 HO.o
    have HSP2 : Hd (tok ≠ 0 → Calls Try.prog 48 #[.slice A q c, .int .i64 most] w2 fun e w' => e = .returned (.int .i64 (pn : Nat)) ∧ Below w2.heap.size w2 w') := hd (fun h => by rw [← HPS.o h]; exact HSP.o)
    clear HSP
    go_upto_if 23 with (fail)
    go_cut [10] from 23 to 26 (fun s10 wx => s10 = .int .i64 (pn : Nat) ∧ Hd (Below w2.heap.size w2 wx))
    case first =>
      by_cases ht : tok = 0
      · have f1 : (tok != 0) = false := by simpa using ht
        have hpq := HPZ.o ht
        clear ht
        subst hpq
        go_wp2_with fail
        go_meet
        exact ⟨rfl, hd (Below.refl _ _)⟩
      · have f1 : (tok != 0) = true := by simpa using ht
        have HC := hd (HSP2.o ht)
        clear ht
        go_wp2_with fail
        refine HC.o.mono ?_
        rintro e w3 ⟨rfl, hb⟩
        have HB3 := hd hb
        clear hb
        go_wp2_with fail
        go_meet
        exact ⟨rfl, HB3⟩
    case rest =>
      obtain ⟨rfl, HB3⟩ := hcut
      have HO3 := hd (HO.o.bel HB3.o)
      have HR3 := hd (HROW.o.below HB3.o)
      have HBF := hd (HB.o.trans (HB3.o.mono HB.o.size))
      have y4 := HLA.o wc HO3.o
      clear HSP2 l4 HO HROW
      by_cases hpq : pn = q
      · have f1 : ((pn : Int) == (q : Int)) = true := by rw [hpq]; simp
        have HP : Hd (pageR l' tok most la 0 = (l', la, false)) := hd (by rw [HPR.o, HPP.o, if_pos hpq])
        clear hpq
        go_wp2_with fail
        go_quiet (fail)
        go_wp2
        (try simp only [Exit.inBlock, Exit.then]); refine bodyPost_ret (results_tmp4 rfl _ _ _) rfl ?_
        exact ⟨l', 0, A, c, by rw [HP.o]; show _ = Ending.returned (.tuple #[.slice A l'.length c, _, _, _]); rw [HQ.o]; rfl, HSI.o, by rw [HP.o]; show Rds _ A l'.length 4 (itsEnc l'); rw [HQ.o]; exact (HR3.o.drewN _).rds, HO3.o.drewN _, bdrewN HBF.o _⟩
      · have f1 : ((pn : Int) == (q : Int)) = false := by simp; omega
        have hp1 : 1 ≤ pn := by have := HPN.o; omega
        obtain ⟨p, rfl⟩ : ∃ p, pn = p + 1 := ⟨pn - 1, by omega⟩
        have hpl : p + 1 < q := by have := HPN.o; omega
        have HPL := hd hpl
        have hpll : p < l'.length := by rw [HQ.o]; omega
        obtain ⟨g, rfl, _, _, hqc, _, hcl, _⟩ := HR3.o.at_ (by omega)
        obtain ⟨v, hv⟩ : ∃ v, (l'[p]'hpll).ver = v := ⟨_, rfl⟩
        have k1 := hcl (p * 4 + 1) _ ((flat_at itEnc 4 itEnc_len l' p hpll 1 (by omega)).trans (by simp [itEnc]; rfl))
        rw [hv] at k1
        have HP : Hd (pageR l' tok most la 0 = (l'.take (p + 1), v, true)) := hd (by
          rw [HPR.o, HPP.o, if_neg hpq]
          simp only [Nat.add_sub_cancel]
          rw [List.getD_eq_getElem?_getD, List.getElem?_eq_getElem hpll, Option.getD_some, hv])
        have hpi : (p : Int) < (q : Int) := by omega
        have hpc : (p : Int) + 1 ≤ (c : Int) := by omega
        have hp0 : (0 : Int) ≤ (p : Int) + 1 := by omega
        have HLT : Hd ((l'.take (p + 1)).length = p + 1) := hd (by rw [List.length_take, HQ.o]; omega)
        clear hpq hcl hv hpll hp1 hpl
        go_wp2_with fail
        go_quiet (fail)
        go_wp2
        (try simp only [Exit.inBlock, Exit.then]); refine bodyPost_ret (results_tmp4 rfl _ _ _) rfl ?_
        exact ⟨l', 0, _, p + 1, by rw [HP.o]; show _ = Ending.returned (.tuple #[.slice _ (l'.take (p + 1)).length _, _, _, _]); rw [HLT.o]; rfl, HSI.o, by rw [HP.o]; exact (HR3.o.drewN _).rds.takeN (p + 1) (by have := HPL.o; omega), HO3.o.drewN _, bdrewN HBF.o _⟩
  · have hen : (err != 0) = true := by simpa using he
    have hpr : pageR l' tok most la err = ([], 0, false) := by unfold pageR; rw [if_neg he]
    have HPR := hd hpr
    clear he hpr
    go_wp2
    (try simp only [Exit.inBlock, Exit.then]); refine bodyPost_ret (results_tmp4 rfl _ _ _) rfl ?_
    refine ⟨l', err, none, 0, by rw [HPR.o]; rfl, HSI.o, by rw [HPR.o]; exact (Row.nil w2 (fun _ => True) 41 4).rds, HO.o, HB.o⟩


end Go.Proofs.Ytbeckfnhgeclnaa
/-
  Conditions: May, Holds, both sides.
-/
namespace Go.Proofs.Ytbeckfnhgeclnaa
open Go.RowKit Go.Lib

def mayP (ck cv : Int) : Bool := if ck = 0 ∨ ck = 1 ∨ ck = 2 then cv == 0 else if ck = 3 then decide (1 ≤ cv) else false
def holdsP (ck cv : Int) (th : Bool) (v : Int) : Bool := mayP ck cv && (if ck = 1 then !th else if ck = 2 then th else if ck = 3 then th && (v == cv) else true)

set_option maxHeartbeats 1000000 in
theorem may_calls (w : World) (ck cv : Int) : Calls Try.prog 97 #[.agg #[.int .i64 ck, .int .i64 cv]] w fun e w' => e = .returned (.bool (mayP ck cv)) ∧ Below w.heap.size w w' := by
  have HV : Hd (∃ b, b = mayP ck cv) := hd ⟨_, rfl⟩
  have hb := hd ((Below.refl w.heap.size w).alloc (Nat.le_refl _) (.cells #[.int .i64 ck, .int .i64 cv] 63))
  by_cases c0 : ck = 0
  · subst c0
    go_enter Try.func97, Try.ntmps97
    go_wp2
    go_ret
    exact ⟨rfl, hb.o⟩
  · by_cases c1 : ck = 1
    · subst c1
      go_enter Try.func97, Try.ntmps97
      go_wp2
      go_ret
      exact ⟨rfl, hb.o⟩
    · by_cases c2 : ck = 2
      · subst c2
        go_enter Try.func97, Try.ntmps97
        go_wp2
        go_ret
        exact ⟨rfl, hb.o⟩
      · by_cases c3 : ck = 3
        · subst c3
          go_enter Try.func97, Try.ntmps97
          go_wp2
          go_ret
          exact ⟨rfl, hb.o⟩
        · have e0 : (ck == 0) = false := by simpa using c0
          have e1 : (ck == 1) = false := by simpa using c1
          have e2 : (ck == 2) = false := by simpa using c2
          have e3 : (ck == 3) = false := by simpa using c3
          have HF : Hd (mayP ck cv = false) := hd (by simp [mayP, c0, c1, c2, c3])
          clear c0 c1 c2 c3
          go_enter Try.func97, Try.ntmps97
          go_wp2
          go_ret
          exact ⟨ret_bool HF.o.symm, hb.o⟩

set_option maxHeartbeats 1000000 in
theorem holds_calls (w : World) (ck cv : Int) (th : Bool) (v : Int) : Calls Try.prog 81 #[.agg #[.int .i64 ck, .int .i64 cv], .bool th, .int .i64 v] w fun e w' => e = .returned (.bool (holdsP ck cv th v)) ∧ Below w.heap.size w w' := by
  have hb := hd ((Below.refl w.heap.size w).alloc (Nat.le_refl _) (.cells #[.int .i64 ck, .int .i64 cv] 63))
  have HM := hd (may_calls (w.alloc (.cells #[.int .i64 ck, .int .i64 cv] 63)) ck cv)
  have HB := hd (Blk.new w 63 #[.int .i64 ck, .int .i64 cv])
  obtain ⟨res, hres⟩ : ∃ r, holdsP ck cv th v = r := ⟨_, rfl⟩
  rw [hres]
  have HR := hd hres
  simp only [holdsP] at hres
  cases hm : mayP ck cv with
  | false =>
    rw [hm] at HM
    have HF : Hd (res = false) := hd (by rw [← hres, hm]; rfl)
    clear hres hm
    go_enter Try.func81, Try.ntmps81
    go_wp2_with fail
    refine HM.o.mono ?_
    rintro e w2 ⟨rfl, hb2⟩
    have HB2 := hd (hb.o.trans (hb2.mono (by simp)))
    clear hb2
    go_wp2
    go_ret
    exact ⟨ret_bool HF.o.symm, HB2.o⟩
  | true =>
    rw [hm] at HM
    rw [hm, Bool.true_and] at hres
    have HF := hd hres
    clear hres hm
    go_enter Try.func81, Try.ntmps81
    go_wp2_with fail
    refine HM.o.mono ?_
    rintro e w2 ⟨rfl, hb2⟩
    have hx := HB.o.below hb2 (by simp)
    have x0 := hx.at_ 0 rfl
    have x1 := hx.at_ 1 rfl
    have HB2 := hd (hb.o.trans (hb2.mono (by simp)))
    clear hb2 hx
    by_cases c1 : ck = 1
    · subst c1
      have HF2 : Hd (res = !th) := hd (by rw [← HF.o]; rfl)
      go_wp2
      go_ret
      exact ⟨ret_bool HF2.o.symm, HB2.o⟩
    · have e1 : (ck == 1) = false := by simpa using c1
      by_cases c2 : ck = 2
      · subst c2
        have HF2 : Hd (res = th) := hd (by rw [← HF.o]; rfl)
        go_wp2
        go_ret
        exact ⟨ret_bool HF2.o.symm, HB2.o⟩
      · have e2 : (ck == 2) = false := by simpa using c2
        by_cases c3 : ck = 3
        · subst c3
          have HF2 : Hd (res = (th && (v == cv))) := hd (by rw [← HF.o]; rfl)
          cases th with
          | true =>
            go_wp2
            go_ret
            exact ⟨ret_bool HF2.o.symm, HB2.o⟩
          | false =>
            go_wp2
            go_ret
            exact ⟨ret_bool HF2.o.symm, HB2.o⟩
        · have e3 : (ck == 3) = false := by simpa using c3
          have HF2 : Hd (res = true) := hd (by rw [← HF.o]; simp [c1, c2, c3])
          clear c1 c2 c3
          go_wp2
          go_ret
          exact ⟨ret_bool HF2.o.symm, HB2.o⟩

set_option maxHeartbeats 1000000 in
theorem rmay_calls (w : World) (ck cv : Int) : Calls Try.prog 98 #[.agg #[.int .i64 ck, .int .i64 cv]] w fun e w' => e = .returned (.bool (mayP ck cv)) ∧ Below w.heap.size w w' := by
  have HV : Hd (∃ b, b = mayP ck cv) := hd ⟨_, rfl⟩
  have hb := hd ((Below.refl w.heap.size w).alloc (Nat.le_refl _) (.cells #[.int .i64 ck, .int .i64 cv] 63))
  by_cases c0 : ck = 0
  · subst c0
    go_enter Try.func98, Try.ntmps98
    go_wp2
    go_ret
    exact ⟨rfl, hb.o⟩
  · by_cases c1 : ck = 1
    · subst c1
      go_enter Try.func98, Try.ntmps98
      go_wp2
      go_ret
      exact ⟨rfl, hb.o⟩
    · by_cases c2 : ck = 2
      · subst c2
        go_enter Try.func98, Try.ntmps98
        go_wp2
        go_ret
        exact ⟨rfl, hb.o⟩
      · by_cases c3 : ck = 3
        · subst c3
          go_enter Try.func98, Try.ntmps98
          go_wp2
          go_ret
          exact ⟨rfl, hb.o⟩
        · have e0 : (ck == 0) = false := by simpa using c0
          have e1 : (ck == 1) = false := by simpa using c1
          have e2 : (ck == 2) = false := by simpa using c2
          have e3 : (ck == 3) = false := by simpa using c3
          have HF : Hd (mayP ck cv = false) := hd (by simp [mayP, c0, c1, c2, c3])
          clear c0 c1 c2 c3
          go_enter Try.func98, Try.ntmps98
          go_wp2
          go_ret
          exact ⟨ret_bool HF.o.symm, hb.o⟩

set_option maxHeartbeats 1000000 in
theorem rholds_calls (w : World) (ck cv : Int) (th : Bool) (v : Int) : Calls Try.prog 82 #[.agg #[.int .i64 ck, .int .i64 cv], .bool th, .int .i64 v] w fun e w' => e = .returned (.bool (holdsP ck cv th v)) ∧ Below w.heap.size w w' := by
  have hb := hd ((Below.refl w.heap.size w).alloc (Nat.le_refl _) (.cells #[.int .i64 ck, .int .i64 cv] 63))
  have HM := hd (rmay_calls (w.alloc (.cells #[.int .i64 ck, .int .i64 cv] 63)) ck cv)
  have HB := hd (Blk.new w 63 #[.int .i64 ck, .int .i64 cv])
  obtain ⟨res, hres⟩ : ∃ r, holdsP ck cv th v = r := ⟨_, rfl⟩
  rw [hres]
  have HR := hd hres
  simp only [holdsP] at hres
  cases hm : mayP ck cv with
  | false =>
    rw [hm] at HM
    have HF : Hd (res = false) := hd (by rw [← hres, hm]; rfl)
    clear hres hm
    go_enter Try.func82, Try.ntmps82
    go_wp2_with fail
    refine HM.o.mono ?_
    rintro e w2 ⟨rfl, hb2⟩
    have HB2 := hd (hb.o.trans (hb2.mono (by simp)))
    clear hb2
    go_wp2
    go_ret
    exact ⟨ret_bool HF.o.symm, HB2.o⟩
  | true =>
    rw [hm] at HM
    rw [hm, Bool.true_and] at hres
    have HF := hd hres
    clear hres hm
    go_enter Try.func82, Try.ntmps82
    go_wp2_with fail
    refine HM.o.mono ?_
    rintro e w2 ⟨rfl, hb2⟩
    have hx := HB.o.below hb2 (by simp)
    have x0 := hx.at_ 0 rfl
    have x1 := hx.at_ 1 rfl
    have HB2 := hd (hb.o.trans (hb2.mono (by simp)))
    clear hb2 hx
    by_cases c1 : ck = 1
    · subst c1
      have HF2 : Hd (res = !th) := hd (by rw [← HF.o]; rfl)
      go_wp2
      go_ret
      exact ⟨ret_bool HF2.o.symm, HB2.o⟩
    · have e1 : (ck == 1) = false := by simpa using c1
      by_cases c2 : ck = 2
      · subst c2
        have HF2 : Hd (res = th) := hd (by rw [← HF.o]; rfl)
        go_wp2
        go_ret
        exact ⟨ret_bool HF2.o.symm, HB2.o⟩
      · have e2 : (ck == 2) = false := by simpa using c2
        by_cases c3 : ck = 3
        · subst c3
          have HF2 : Hd (res = (th && (v == cv))) := hd (by rw [← HF.o]; rfl)
          cases th with
          | true =>
            go_wp2
            go_ret
            exact ⟨ret_bool HF2.o.symm, HB2.o⟩
          | false =>
            go_wp2
            go_ret
            exact ⟨ret_bool HF2.o.symm, HB2.o⟩
        · have e3 : (ck == 3) = false := by simpa using c3
          have HF2 : Hd (res = true) := hd (by rw [← HF.o]; simp [c1, c2, c3])
          clear c1 c2 c3
          go_wp2
          go_ret
          exact ⟨ret_bool HF2.o.symm, HB2.o⟩

end Go.Proofs.Ytbeckfnhgeclnaa
/-
  What a check says, plainly.
-/
namespace Go.Proofs.Ytbeckfnhgeclnaa
open Go.RowKit Go.Lib

def uidIn (l : List OpV) (u : List UInt8) : Bool := l.any fun x => decide (x.uid = u)
theorem uidIn_snoc (l : List OpV) (x : OpV) (u : List UInt8) : uidIn (l ++ [x]) u = (uidIn l u || decide (x.uid = u)) := by simp [uidIn]

/-- One write looked at: what is wrong, or how many and how much then. -/
def chkO (s : Cs) (room : Int) (pre : List OpV) (o : OpV) (m g : Int) : Int ⊕ (Int × Int) :=
  if uidIn pre o.uid = true then .inl 11
  else if holdsP o.ck o.cv (hasM s.ml o.uid) (verM s.ml o.uid) = false then .inl 6
  else if o.del = true ∧ hasM s.ml o.uid = false then .inl 4
  else
    let m' := (if hasM s.ml o.uid = true then m - 1 else m) + (if o.del = true then 0 else 1)
    let g' := (if hasM s.ml o.uid = true then g - ((txtM s.ml o.uid).length : Int) else g) + (if o.del = true then 0 else (o.card.length : Int))
    if s.most < m' ∨ room < g' then .inl 7 else .inr (m', g')
def chkG (s : Cs) (room : Int) : List OpV → List OpV → Int → Int → Int × Int × Int
  | _, [], _, g => (0, g, 0)
  | pre, o :: r, m, g =>
    match chkO s room pre o m g with
    | .inl e => ((pre.length : Int), 0, e)
    | .inr p => chkG s room (pre ++ [o]) r p.1 p.2
theorem chkG_err {s : Cs} {room : Int} {l : List OpV} {k : Nat} {m g e : Int} (h : k < l.length) (hc : chkO s room (l.take k) l[k] m g = .inl e) : chkG s room (l.take k) (l.drop k) m g = ((k : Int), 0, e) := by
  rw [List.drop_eq_getElem_cons h, chkG, hc]
  simp only [List.length_take]
  rw [Nat.min_eq_left (Nat.le_of_lt h)]
theorem chkG_ok {s : Cs} {room : Int} {l : List OpV} {k : Nat} {m g : Int} {p : Int × Int} (h : k < l.length) (hc : chkO s room (l.take k) l[k] m g = .inr p) : chkG s room (l.take k) (l.drop k) m g = chkG s room (l.take (k + 1)) (l.drop (k + 1)) p.1 p.2 := by
  rw [List.drop_eq_getElem_cons h, chkG, hc, List.take_succ_eq_append_getElem h]

end Go.Proofs.Ytbeckfnhgeclnaa
/-
  Check's parts: ContainsFunc, IndexFunc at writes; few writes; what a check says.
-/
namespace Go.Proofs.Ytbeckfnhgeclnaa
open Go.RowKit Go.Lib

theorem opEnc_len' (x : OpV) : (opEnc x).length = 5 := rfl
theorem opsE_at (l : List OpV) (i : Nat) (h : i < l.length) (j : Nat) (hj : j < 5) : (opsE l)[i * 5 + j]? = (opEnc l[i])[j]? := flat_at opEnc 5 opEnc_len' l i h j hj

theorem chk1_calls (w : World) (x : OpV) (b : Nat) (u : List UInt8) (hb : w.cell? ⟨b, 1, none⟩ = some (.string (bs u))) (hl : b < w.heap.size) :
    Calls Try.prog 80 #[.agg (opEnc x).toArray, .pointer (some ⟨b, 0, none⟩)] w fun e w' => e = .returned (.bool (decide (x.uid = u))) ∧ w.alloc (.cells (opEnc x).toArray 65) = w' := by
  obtain ⟨xd, xu, xc, xk, xv⟩ := x
  simp only [opEnc]
  have heq := rstr_eq xu u
  go_enter Try.func80, Try.ntmps80
  go_wp2
  go_ret
  exact ⟨rfl, rfl⟩

set_option maxRecDepth 100000 in
set_option maxHeartbeats 2000000 in
theorem ifO_calls (w : World) (A : Option Addr) (n c : Nat) (l : List OpV) (b : Nat) (v : List UInt8) (hr : Rds w A n 5 (opsE l)) (hn : n = l.length) (hm : n ≤ 1000000) (hb : w.cell? ⟨b, 1, none⟩ = some (.string (bs v))) (hl : b < w.heap.size) :
    Calls Try.prog 96 #[.slice A n c, .func (.func 80) #[] #[.pointer (some ⟨b, 0, none⟩)]] w fun e w' => ∃ i : Int, e = .returned (.int .i64 i) ∧ decide (0 ≤ i) = uidIn l v ∧ Below w.heap.size w w' := by
  have HR := hd hr
  have HN := hd hn
  have HC := hd (fun wr (hbe : Below w.heap.size w wr) (x : OpV) => chk1_calls wr x b v ((hbe.cell (p := ⟨b, 1, none⟩) hl).trans hb) (Nat.lt_of_lt_of_le hl hbe.size))
  clear hr hn hb
  go_enter Try.func96, Try.ntmps96
  go_wp2_with fail
  go_loopw [8, 5] (fun s8 s5 wr => ∃ k : Nat, s8 = .int .i64 k ∧ k ≤ n ∧ Hd (uidIn (l.take k) v = false) ∧ Hd (Below w.heap.size w wr)) (fun s8 _ _ => n - (intOf s8).toNat)
  case atStart => exact ⟨0, rfl, Nat.zero_le _, hd rfl, hd (Below.refl _ _)⟩
  case round =>
    obtain ⟨k, rfl, hk, HV, HB⟩ := hrel
    have hki : (0 : Int) ≤ (k : Int) := by omega
    by_cases hlt : k < n
    · have hlti : (k : Int) < (n : Int) := by omega
      have hkl : k < l.length := by rw [← HN.o]; exact hlt
      obtain ⟨g, o, rfl, hg, hc⟩ := HR.o.at_ (by omega)
      obtain ⟨x, hx⟩ : ∃ x, l[k]'hkl = x := ⟨_, rfl⟩
      have HT : Hd (l.take (k + 1) = l.take k ++ [x]) := hd (by rw [List.take_succ_eq_append_getElem hkl, hx])
      have HMEM : Hd (x ∈ l) := hd (by rw [← hx]; exact List.getElem_mem hkl)
      have hcell : ∀ j u, j < 5 → (opEnc x)[j]? = some u → wr.cell? ⟨g, o + (k * 5 + j), none⟩ = some u := fun j u hj hv => (HB.o.cell (p := ⟨g, o + (k * 5 + j), none⟩) hg).trans (hc _ _ ((opsE_at l k hkl j hj).trans (by rw [hx]; exact hv)))
      have hcall := hd (HC.o wr HB.o x)
      obtain ⟨xd, xu, xc, xk, xv⟩ := x
      have k0 := hcell 0 _ (by omega) rfl
      have k1 := hcell 1 _ (by omega) rfl
      have k2 := hcell 2 _ (by omega) rfl
      have k3 := hcell 3 _ (by omega) rfl
      have k4 := hcell 4 _ (by omega) rfl
      rw [← Nat.add_assoc] at k0 k1 k2 k3 k4
      rw [Nat.add_zero] at k0
      simp only [opEnc] at hcall
      obtain ⟨bq, hbq⟩ : ∃ q : Bool, decide (xu = v) = q := ⟨_, rfl⟩
      rw [hbq] at hcall
      have HBQ := hd hbq
      clear hcell hc hx hkl hbq
      go_wp2_with fail
      refine hcall.o.mono ?_
      rintro e w1 ⟨rfl, rfl⟩
      have HB1 := hd (HB.o.alloc HB.o.size (.cells #[.bool xd, .string (bs xu), .string (bs xc), .int .i64 xk, .int .i64 xv] 65))
      cases bq with
      | true =>
        go_wp2
        go_ret
        refine ⟨(k : Int), rfl, ?_, HB1.o⟩
        rw [decide_eq_true hki]
        symm
        simp only [uidIn, List.any_eq_true]
        exact ⟨_, HMEM.o, HBQ.o⟩
      | false =>
        have HV2 : Hd (uidIn (l.take (k + 1)) v = false) := hd (by rw [HT.o, uidIn_snoc, HV.o]; simpa using HBQ.o)
        go_wp2
        go_roundw
        case rel => exact ⟨k + 1, by go_num, by omega, HV2, HB1⟩
        case measure => simp [intOf]; omega
    · obtain rfl : k = n := by omega
      have HE : Hd (l.take k = l) := hd (List.take_of_length_le (by rw [← HN.o]; exact Nat.le_refl _))
      go_wp2
      go_ret
      refine ⟨-1, rfl, ?_, HB.o⟩
      have := HV.o
      rw [HE.o] at this
      rw [this]
      rfl
theorem cfO_calls (w : World) (A : Option Addr) (n c : Nat) (l : List OpV) (b : Nat) (v : List UInt8) (hr : Rds w A n 5 (opsE l)) (hn : n = l.length) (hm : n ≤ 1000000) (hb : w.cell? ⟨b, 1, none⟩ = some (.string (bs v))) (hl : b < w.heap.size) :
    Calls Try.prog 79 #[.slice A n c, .func (.func 80) #[] #[.pointer (some ⟨b, 0, none⟩)]] w fun e w' => e = .returned (.bool (uidIn l v)) ∧ Below w.heap.size w w' := by
  have hc := hd (ifO_calls w A n c l b v hr hn hm hb hl)
  clear hr hn hb
  go_enter Try.func79, Try.ntmps79
  go_wp2_with fail
  refine hc.o.mono ?_
  rintro e w1 ⟨i, rfl, hi, hb1⟩
  have HI := hd hi
  clear hi
  go_wp2
  go_ret
  exact ⟨ret_bool (by rw [← HI.o]), hb1⟩

/-- Few writes. -/
def fewP (l : List OpV) : Bool := !(decide (20 < l.length)) && l.all fun x => !(decide (60 < x.uid.length) || decide (1000 < x.card.length))
theorem fewP_len {l : List OpV} (h : fewP l = true) : l.length ≤ 20 := by
  unfold fewP at h
  simp only [Bool.and_eq_true, Bool.not_eq_true', decide_eq_false_iff_not] at h
  omega
theorem fewP_each {l : List OpV} (h : fewP l = true) : ∀ x ∈ l, x.uid.length ≤ 60 ∧ x.card.length ≤ 1000 := by
  intro x hx
  unfold fewP at h
  simp only [Bool.and_eq_true] at h
  have := List.all_eq_true.1 h.2 x hx
  simp only [Bool.not_eq_true', Bool.or_eq_false_iff, decide_eq_false_iff_not] at this
  omega

set_option maxHeartbeats 1000000 in
theorem few_calls (w : World) (A : Option Addr) (n c : Nat) (l : List OpV) (hr0 : Rds w A n 5 (opsE l)) (hn : n = l.length) (hm : n ≤ maxLen) (hok : ∀ x ∈ l, OpOk x) :
    Calls Try.prog 52 #[.slice A n c] w fun e w' => e = .returned (.bool (fewP l)) ∧ Below w.heap.size w w' := by
  obtain ⟨LB, hLB⟩ : ∃ LB, fewP l = LB := ⟨_, rfl⟩
  rw [hLB]
  simp only [fewP] at hLB
  rw [← hn] at hLB
  have HL := hd hLB
  have HN := hd hn.symm
  have HE := hd hok
  unfold maxLen at hm
  clear hLB hn hok
  by_cases c2 : 20 < n
  · have f2 : decide ((20 : Int) < (n : Int)) = true := by simp; omega
    have HR : Hd (LB = false) := hd (by rw [← HL.o]; simp [c2])
    clear c2
    go_enter Try.func52, Try.ntmps52
    go_wp2
    go_ret
    exact ⟨ret_bool HR.o.symm, Below.refl _ w⟩
  · have f2 : decide ((20 : Int) < (n : Int)) = false := by simp; omega
    have HR : Hd (LB = l.all fun x => !(decide (60 < x.uid.length) || decide (1000 < x.card.length))) := hd (by rw [← HL.o]; simp [c2])
    go_enter Try.func52, Try.ntmps52
    go_wp2_with fail
    go_loop [3] (fun i => ∃ k : Nat, i = .int .i64 k ∧ k ≤ n ∧ Hd (∀ j (h : j < l.length), j < k → (!(decide (60 < l[j].uid.length) || decide (1000 < l[j].card.length))) = true)) (fun i => n - (intOf i).toNat)
    case atStart => exact ⟨0, rfl, Nat.zero_le _, hd (fun j _ h => absurd h (Nat.not_lt_zero _))⟩
    case round =>
      obtain ⟨k, rfl, hk, hall⟩ := hrel
      have hki : (0 : Int) ≤ (k : Int) := by omega
      by_cases hlt : k < n
      · have hlti : (k : Int) < (n : Int) := by omega
        have hkl : k < l.length := by rw [HN.o]; exact hlt
        obtain ⟨g, o, rfl, hg, hc⟩ := hr0.at_ (by omega)
        obtain ⟨x, hx⟩ : ∃ x, l[k]'hkl = x := ⟨_, rfl⟩
        have HX := hd hx
        have hes := HE.o x (by rw [← hx]; exact List.getElem_mem hkl)
        have hcell : ∀ j u, j < 5 → (opEnc x)[j]? = some u → w.cell? ⟨g, o + (k * 5 + j), none⟩ = some u := fun j u hj hv => hc _ _ ((opsE_at l k hkl j hj).trans (by rw [hx]; exact hv))
        obtain ⟨del, uid, text, ck, cv⟩ := x
        have k0 := hcell 1 _ (by omega) rfl
        have k3 := hcell 2 _ (by omega) rfl
        rw [← Nat.add_assoc] at k0 k3
        obtain ⟨uz, huz⟩ : ∃ uz, uid.length = uz := ⟨_, rfl⟩
        obtain ⟨tz, htz⟩ : ∃ tz, text.length = tz := ⟨_, rfl⟩
        simp only [OpOk, huz, htz] at hes
        unfold maxLen at hes
        have hsu : (bs uid).size = uz := by rw [bs_sz, huz]
        have hst : (bs text).size = tz := by rw [bs_sz, htz]
        have HBAD : Hd ((60 < uz ∨ 1000 < tz) → LB = false) := hd (fun hh => by
          rw [HR.o, Bool.eq_false_iff]
          intro ha
          have := List.all_eq_true.1 ha _ (List.getElem_mem hkl)
          rw [HX.o] at this
          simp only [huz, htz] at this
          rcases hh with h | h <;> simp [h] at this)
        have HG : Hd (¬ 60 < uz → ¬ 1000 < tz → ∀ j (h : j < l.length), j < k + 1 → (!(decide (60 < l[j].uid.length) || decide (1000 < l[j].card.length))) = true) := hd (fun h1 h2 j hj hjk => by
          by_cases hjj : j < k
          · exact hall.o j hj hjj
          · obtain rfl : j = k := by omega
            rw [HX.o]
            simp only [huz, htz]
            simp [h1, h2])
        clear hcell hc hx hr0 huz htz
        by_cases v1 : 60 < uz
        · have g1 : decide ((60 : Int) < (uz : Int)) = true := by simp; omega
          have HH := hd (HBAD.o (.inl v1))
          clear v1
          go_wp2
          go_ret
          exact ⟨ret_bool HH.o.symm, Below.refl _ _⟩
        · have g1 : decide ((60 : Int) < (uz : Int)) = false := by simp; omega
          by_cases v2 : 1000 < tz
          · have g2 : decide ((1000 : Int) < (tz : Int)) = true := by simp; omega
            have HH := hd (HBAD.o (.inr v2))
            clear v1 v2
            go_wp2
            go_ret
            exact ⟨ret_bool HH.o.symm, Below.refl _ _⟩
          · have g2 : decide ((1000 : Int) < (tz : Int)) = false := by simp; omega
            have HH := hd (HG.o v1 v2)
            clear v1 v2
            go_wp2
            go_round
            case rel => exact ⟨k + 1, by go_num, by omega, HH⟩
            case measure => simp [intOf]; omega
      · obtain rfl : k = n := by omega
        have HH : Hd (LB = true) := hd (by
          rw [HR.o, List.all_eq_true]
          intro x hx
          obtain ⟨j, hj, rfl⟩ := List.getElem_of_mem hx
          exact hall.o j hj (by rw [← HN.o]; exact hj))
        go_wp2
        go_ret
        exact ⟨ret_bool HH.o.symm, Below.refl _ _⟩

end Go.Proofs.Ytbeckfnhgeclnaa
/-
  ColFolds, as a call: it returns true, whatever the writes.
-/
namespace Go.Proofs.Ytbeckfnhgeclnaa
open Go.RowKit Go.Lib

/-- Behind k writes whose tokens rise one by one. -/
structure RunC (s : Cs) (t : Int) (k : Nat) : Prop where
  good : s.Good
  tok : s.Tok
  pos : s.Pos
  le : s.latest ≤ t
  ml : s.ml.length ≤ k
  log : s.log.length ≤ k
  bytes : bytesM s.ml ≤ 1000 * (k : Int)
theorem run_new (birth cards log : Int) (h : 1 ≤ birth) : RunC (Cs.new birth cards log) birth 0 :=
  ⟨made_good birth cards log [], Cs.new_tok _ _ _, ⟨fun e he => (by cases he), h⟩, Int.le_refl _, Nat.le_refl _, Nat.le_refl _, by simp [Cs.new, bytesM]⟩
theorem RunC.step {s : Cs} {t : Int} {k : Nat} (h : RunC s t k) (ht : 0 ≤ t) (o : OpV) (ho : o.card.length ≤ 1000) : RunC (s.step o (t + 1)).2 (t + 1) (k + 1) := by
  have hz := Cs.step_sizes h.good.ok o (t + 1)
  have h1 := h.ml
  have h2 := h.log
  have h3 := h.bytes
  have h4 := h.le
  exact ⟨⟨Cs.step_ok h.good.ok o _, Cs.step_ver h.good.ver h.good.ok o _⟩, Cs.step_tok h.tok o _, Cs.step_pos h.pos h.good.ok o (by omega), (Cs.step_latest o (by omega)).2, by omega, by omega, by omega⟩

/-- A collection, and items gathered apart from it. -/
structure FoldC (w wr : World) (b : Nat) (s : Cs) (A : Option Addr) (c : Nat) (L : List It) : Prop where
  ex : ∃ S T : Nat → Prop, ColR wr S b s ∧ Row wr T 41 4 A L.length c (itsEnc L) ∧ (∀ q, S q → ¬ T q) ∧ (∀ q, S q → w.heap.size ≤ q ∧ q < wr.heap.size) ∧ (∀ q, T q → w.heap.size ≤ q ∧ q < wr.heap.size)
  below : Below w.heap.size w wr
  ok : s.Ok
  uid : ∀ x ∈ s.log, x.2.length ≤ maxLen
theorem FoldC.bel {w wr w' : World} {b : Nat} {s : Cs} {A : Option Addr} {c : Nat} {L : List It} (h : FoldC w wr b s A c L) (hb : Below wr.heap.size wr w') : FoldC w w' b s A c L := by
  obtain ⟨⟨S, T, h1, h2, h3, h4, h5⟩, h6, h7, h8⟩ := h
  have hs := hb.size
  exact ⟨⟨S, T, h1.below hb, h2.below hb, h3, fun q hq => ⟨(h4 q hq).1, by have := (h4 q hq).2; omega⟩, fun q hq => ⟨(h5 q hq).1, by have := (h5 q hq).2; omega⟩⟩, h6.trans (hb.mono h6.size), h7, h8⟩
theorem FoldC.own {w wr : World} {b : Nat} {s : Cs} {A : Option Addr} {c : Nat} {L : List It} (h : FoldC w wr b s A c L) : OwnC wr.heap.size w wr b s := by
  obtain ⟨⟨S, T, h1, h2, h3, h4, h5⟩, h6, h7, h8⟩ := h
  exact ⟨⟨S, h1, h4⟩, h6, Nat.le_refl _, h7, h8⟩
theorem FoldC.rds {w wr : World} {b : Nat} {s : Cs} {A : Option Addr} {c : Nat} {L : List It} (h : FoldC w wr b s A c L) : Rds wr A L.length 4 (itsEnc L) := by
  obtain ⟨⟨S, T, h1, h2, _⟩, _⟩ := h
  exact h2.rds
theorem foldc_start {B : Nat} {w wr : World} {b : Nat} {s : Cs} (h : OwnC B w wr b s) : FoldC w wr b s none 0 [] := by
  obtain ⟨⟨S, h1, h2⟩, h3, h4, h5, h6⟩ := h
  exact ⟨⟨S, Non, h1, Row.nil _ _ _ _, fun _ _ h => h, fun q hq => ⟨(h2 q hq).1, by have := (h2 q hq).2; omega⟩, fun q hq => hq.elim⟩, h3, h5, h6⟩
theorem foldc_apply {w wr : World} {b : Nat} {s : Cs} {A : Option Addr} {c : Nat} {L : List It} (h : FoldC w wr b s A c L) (o : OpV) (t : Int) (hl : s.ml.length < 1000000) (hlg : s.log.length < 1000000) (hby : bytesM s.ml ≤ 1000000000000) (hcl : o.card.length ≤ 1000000000000) (hu : o.uid.length ≤ maxLen) :
    Calls Try.prog 44 #[.pointer (some ⟨b, 0, none⟩), .agg (opEnc o).toArray, .int .i64 t] wr fun e w' => e = .returned (.bool (s.step o t).1) ∧ FoldC w w' b (s.step o t).2 A c L := by
  obtain ⟨⟨S, T, h1, h2, h3, h4, h5⟩, h6, h7, h8⟩ := h
  refine (apply_calls wr S b s o t h1 h7 (fun q hq => (h4 q hq).2) hl hlg hby hcl).mono fun e w' ⟨he, hrep, hc⟩ => ⟨he, ⟨_, T, hrep.shrink, h2.chg hc (fun q hq hs => h3 q hs hq), fun q hq ht => ?_, fun q hq => ?_, fun q hq => ?_⟩, ?_, Cs.step_ok h7 o t, step_uid h8 hu⟩
  · obtain ⟨hq | hq, hq2⟩ := hq
    · exact h3 q hq ht
    · have := h5 q ht; have : wr.heap.size ≤ q := hq; omega
  · obtain ⟨hq | hq, hq2⟩ := hq
    · exact ⟨(h4 q hq).1, hq2⟩
    · exact ⟨Nat.le_trans h6.size hq, hq2⟩
  · have := h5 q hq; have := hc.size; exact ⟨by omega, by omega⟩
  · exact h6.trans (hc.below (fun q hq => (h4 q hq).1) h6.size)
theorem foldc_fold {w wr : World} {b : Nat} {s : Cs} {A : Option Addr} {c : Nat} {L : List It} (h : FoldC w wr b s A c L) (x : It) (hL : L.length ≤ 1000000) :
    Calls Try.prog 53 #[.slice A L.length c, .agg (itEnc x).toArray] wr fun e w' => ∃ A' c', e = .returned (.slice A' (foldL L x).length c') ∧ FoldC w w' b s A' c' (foldL L x) ∧ Below wr.heap.size wr w' := by
  have hb0 := h.below
  obtain ⟨⟨S, T, h1, h2, h3, h4, h5⟩, h6, h7, h8⟩ := h
  refine (kfold_calls wr A L.length c L x h2.rds rfl hL).mono fun e w' ⟨A', c', he, hr, hb⟩ => ⟨A', c', he, ⟨⟨S, Of A', h1.below hb, hr.own_, fun q hq ht => ?_, fun q hq => ?_, fun q hq => ?_⟩, h6.trans (hb.mono h6.size), h7, h8⟩, hb⟩
  · have h9 : wr.heap.size ≤ q := hr.of_sub q ht
    have := (h4 q hq).2
    omega
  · have := h4 q hq; have := hb.size; exact ⟨by omega, by omega⟩
  · have h9 : wr.heap.size ≤ q := hr.of_sub q hq
    refine ⟨Nat.le_trans h6.size h9, ?_⟩
    cases A' with
    | none => exact (Of.none hq).elim
    | some a => rw [hq.some_]; exact hr.lt rfl

/-- What is gathered, as a map. -/
structure Have (H : ML It) (L : List It) : Prop where
  rise : Rising H
  cards : Cards H
  is : L = H.map (·.2)
theorem Have.nil : Have [] [] := ⟨List.Pairwise.nil, fun _ h => (by cases h), rfl⟩
theorem Have.fold {H : ML It} {L : List It} (h : Have H L) (x : It) : Have (stepIt H x) (foldL L x) :=
  ⟨stepIt_rise h.rise x, stepIt_cards h.rise h.cards x, by rw [h.is, foldL_is h.rise h.cards]⟩
theorem since_zero_is {s : Cs} {l : List It} {err : Int} (h : SinceIs s 0 l err) : err = 0 ∧ SortedOf (liveL s.ml) l := by
  rcases h with ⟨_, a, b⟩ | ⟨a, _⟩ | ⟨a, _⟩
  · exact ⟨a, b⟩
  · exact absurd rfl a
  · exact absurd rfl a
theorem since_err {s : Cs} {t : Int} {l : List It} {err : Int} (h : SinceIs s t l err) (he : err ≠ 0) (hle : t ≤ s.latest) : err = 8 ∧ t < s.horizon := by
  rcases h with ⟨_, a, b⟩ | ⟨a, b, c, d⟩ | ⟨a, b, c, d⟩
  · exact absurd a he
  · refine ⟨c, ?_⟩
    unfold Cs.bad at b
    simp at b
    omega
  · exact absurd c he
theorem pageR_zero (l : List It) (most la : Int) : pageR l 0 most la 0 = (l, la, false) := by
  unfold pageR pageP pageN
  simp
theorem pageR_ok (l : List It) (t most la : Int) : pageR l t most la 0 = pageP l t most la := by
  unfold pageR
  rw [if_pos rfl]
/-- The pages go on, or are at their end. -/
theorem page_next {s : Cs} {t : Int} {k : Nat} (hr : RunC s t k) {nx : Int} (h0 : 1 ≤ nx) (hle : nx ≤ s.latest) {H : ML It} (hH : Rising H) (hc : CopyOf s H nx) {l : List It} (hs : SinceIs s nx l 0) (most : Int) :
    Paged s nx l (pageP l nx most s.latest).1 (pageP l nx most s.latest).2.1 (pageP l nx most s.latest).2.2 ∧ Upto s (foldIts H (pageP l nx most s.latest).1) (pageP l nx most s.latest).2.1 ∧
    ((pageP l nx most s.latest).2.2 = false → (foldIts H (pageP l nx most s.latest).1).map (·.2) = liveL s.ml) := by
  obtain ⟨hw, h1, h2⟩ := since_whole hr.good hr.tok hs (by omega) rfl
  have hp := page_whole hr.tok hw hle (by omega) most
  have hu := hc.resolve_left (by omega)
  exact ⟨hp, hp.fits H hH hu, fun hm => fits_live hr.good.ok.rise (foldIts_rise hH _) (hp.done hm H hH hu)⟩
theorem ownc_lat {B : Nat} {w wr : World} {b : Nat} {s : Cs} (h : OwnC B w wr b s) : Calls Try.prog 37 #[.pointer (some ⟨b, 0, none⟩)] wr fun e w' => e = .returned (.int .i64 s.latest) ∧ wr = w' := ownc_latest h

end Go.Proofs.Ytbeckfnhgeclnaa
/-
  ColFolds, the walk.
-/
namespace Go.Proofs.Ytbeckfnhgeclnaa
open Go.RowKit Go.Lib

set_option maxRecDepth 100000 in
set_option maxHeartbeats 4000000 in
theorem lfolds_early (w : World) (birth cards log : Int) (A : Option Addr) (n c : Nat) (a : List OpV) (A2 : Option Addr) (n2 c2 : Nat) (b : List OpV) (most : Int) (hr : Rds w A n 5 (opsE a)) (hn : n = a.length) (hm : n ≤ maxLen) (hok : ∀ x ∈ a, OpOk x)
    (hr2 : Rds w A2 n2 5 (opsE b)) (hn2 : n2 = b.length) (hm2 : n2 ≤ maxLen) (hok2 : ∀ x ∈ b, OpOk x) (hno : fewP a = false ∨ fewP b = false ∨ birth < 1 ∨ 1099511627776 < birth) :
    Calls Try.prog 13 #[.int .i64 birth, .int .i64 cards, .int .i64 log, .slice A n c, .slice A2 n2 c2, .int .i64 most] w fun e w' => e = .returned (.bool true) ∧ Below w.heap.size w w' := by
  have HFA := hd (fun w' (hb : Below w.heap.size w w') => few_calls w' A n c a (hr.below hb) hn hm hok)
  have HFB := hd (fun w' (hb : Below w.heap.size w w') => few_calls w' A2 n2 c2 b (hr2.below hb) hn2 hm2 hok2)
  have HNO := hd hno
  clear hn hok hr hr2 hn2 hok2 hno
  cases ha : fewP a with
  | false =>
    rw [ha] at HFA
    clear ha HNO
    go_enter Try.func13, Try.ntmps13
    go_wp2_with fail
    refine (cfirst_calls w).mono ?_
    rintro e w1 ⟨rfl, b1⟩
    go_wp2_with fail
    refine (HFA.o w1 b1).mono ?_
    rintro e w2 ⟨rfl, b2⟩
    go_wp2_with fail
    refine (cfirst_calls w2).mono ?_
    rintro e w3 ⟨rfl, b3⟩
    go_wp2
    go_ret
    exact ⟨rfl, b1.trans ((b2.mono b1.size).trans (b3.mono (by have := b1.size; have := b2.size; omega)))⟩
  | true =>
    rw [ha] at HFA HNO
    clear ha
    cases hbb : fewP b with
    | false =>
      rw [hbb] at HFB
      clear hbb HNO
      go_enter Try.func13, Try.ntmps13
      go_wp2_with fail
      refine (cfirst_calls w).mono ?_
      rintro e w1 ⟨rfl, b1⟩
      go_wp2_with fail
      refine (HFA.o w1 b1).mono ?_
      rintro e w2 ⟨rfl, b2⟩
      have b12 := hd (b1.trans (b2.mono b1.size))
      clear b1 b2
      go_wp2_with fail
      refine (HFB.o w2 b12.o).mono ?_
      rintro e w3 ⟨rfl, b3⟩
      have b13 := hd (b12.o.trans (b3.mono b12.o.size))
      clear b3
      go_wp2_with fail
      refine (cfirst_calls w3).mono ?_
      rintro e w4 ⟨rfl, b4⟩
      go_wp2
      go_ret
      exact ⟨rfl, b13.o.trans (b4.mono b13.o.size)⟩
    | true =>
      rw [hbb] at HFB HNO
      clear hbb
      have h3 : birth < 1 ∨ 1099511627776 < birth := by
        rcases HNO.o with h | h | h
        · cases h
        · cases h
        · exact h
      clear HNO
      have HBI : Hd (∃ x y : Bool, decide (birth < 1) = x ∧ decide (1099511627776 < birth) = y ∧ (x = true ∨ (x = false ∧ y = true))) := hd ⟨_, _, rfl, rfl, by
        rcases h3 with h | h
        · left; simpa using h
        · by_cases h1 : birth < 1
          · left; simpa using h1
          · right; exact ⟨by simpa using h1, by simpa using h⟩⟩
      clear h3
      obtain ⟨x, y, hx, hy, hxy⟩ := HBI.o
      rcases hxy with rfl | ⟨rfl, rfl⟩
      all_goals
        go_enter Try.func13, Try.ntmps13
        go_wp2_with fail
        refine (cfirst_calls w).mono ?_
        rintro e w1 ⟨rfl, b1⟩
        go_wp2_with fail
        refine (HFA.o w1 b1).mono ?_
        rintro e w2 ⟨rfl, b2⟩
        have b12 := hd (b1.trans (b2.mono b1.size))
        clear b1 b2
        go_wp2_with fail
        refine (HFB.o w2 b12.o).mono ?_
        rintro e w3 ⟨rfl, b3⟩
        have b13 := hd (b12.o.trans (b3.mono b12.o.size))
        clear b3
        go_wp2_with fail
        refine (cfirst_calls w3).mono ?_
        rintro e w4 ⟨rfl, b4⟩
        go_wp2
        go_ret
        exact ⟨rfl, b13.o.trans (b4.mono b13.o.size)⟩

set_option maxRecDepth 100000 in
set_option maxHeartbeats 16000000 in
theorem lfolds_main (w : World) (birth cards log : Int) (A : Option Addr) (n c : Nat) (a : List OpV) (A2 : Option Addr) (n2 c2 : Nat) (b : List OpV) (most : Int) (hr : Rds w A n 5 (opsE a)) (hn : n = a.length) (hm : n ≤ maxLen) (hok : ∀ x ∈ a, OpOk x)
    (hr2 : Rds w A2 n2 5 (opsE b)) (hn2 : n2 = b.length) (hm2 : n2 ≤ maxLen) (hok2 : ∀ x ∈ b, OpOk x) (ha : fewP a = true) (hb : fewP b = true) (hb1 : 1 ≤ birth) (hb2 : birth ≤ 1099511627776) :
    Calls Try.prog 13 #[.int .i64 birth, .int .i64 cards, .int .i64 log, .slice A n c, .slice A2 n2 c2, .int .i64 most] w fun e w' => e = .returned (.bool true) ∧ Below w.heap.size w w' := by
  have HFA := hd (fun w' (hb : Below w.heap.size w w') => few_calls w' A n c a (hr.below hb) hn hm hok)
  have HFB := hd (fun w' (hb : Below w.heap.size w w') => few_calls w' A2 n2 c2 b (hr2.below hb) hn2 hm2 hok2)
  rw [ha] at HFA
  rw [hb] at HFB
  have hn20 : n ≤ 20 := by rw [hn]; exact fewP_len ha
  have hn220 : n2 ≤ 20 := by rw [hn2]; exact fewP_len hb
  have HE := hd (fewP_each ha)
  have HE2 := hd (fewP_each hb)
  have HR := hd hr
  have HR2 := hd hr2
  have HN := hd hn
  have HN2 := hd hn2
  have g1 : decide (birth < 1) = false := by simp; omega
  have g2 : decide (1099511627776 < birth) = false := by simp; omega
  clear hn hok hr hr2 hn2 hok2 ha hb hm hm2
  go_enter Try.func13, Try.ntmps13
  go_wp2_with fail
  refine (cfirst_calls w).mono ?_
  rintro e w1 ⟨rfl, b1⟩
  go_wp2_with fail
  refine (HFA.o w1 b1).mono ?_
  rintro e w2 ⟨rfl, b2⟩
  have b12 := hd (b1.trans (b2.mono b1.size))
  clear b1 b2
  go_wp2_with fail
  refine (HFB.o w2 b12.o).mono ?_
  rintro e w3 ⟨rfl, b3⟩
  have b13 := hd (b12.o.trans (b3.mono b12.o.size))
  clear b3 b12
  clear g1 g2
  go_wp2_with fail
  refine (ownc_new b13.o birth cards log).mono ?_
  rintro e w4 ⟨bc, rfl, hO, _⟩
  have HO := hd hO
  clear hO b13
  have HRUN0 := hd (run_new birth cards log hb1)
  go_wp2_with fail
  go_loopw [15, 14] (fun i t wr => ∃ (k B : Nat) (s : Cs), i = .int .i64 k ∧ t = .int .i64 (birth + k) ∧ k ≤ n ∧ Hd (RunC s (birth + k) k) ∧ Hd (OwnC B w wr bc s)) (fun i _ _ => n - (intOf i).toNat)
  case atStart => exact ⟨0, _, _, rfl, by first | rfl | (simp; done), Nat.zero_le _, hd (by have h := HRUN0.o; rw [show birth + ((0 : Nat) : Int) = birth by simp]; exact h), HO⟩
  case round =>
    clear HO HRUN0
    obtain ⟨k, B, s, rfl, rfl, hk, HRUN, HO⟩ := hrel
    have hki : (0 : Int) ≤ (k : Int) := by omega
    by_cases hlt : k < n
    · have hlti : (k : Int) < (n : Int) := by omega
      have hkl : k < a.length := by rw [← HN.o]; exact hlt
      obtain ⟨ga, oa, rfl, hga, hc⟩ := HR.o.at_ (by omega)
      obtain ⟨x, hx⟩ : ∃ x, a[k]'hkl = x := ⟨_, rfl⟩
      have hxs := HE.o x (by rw [← hx]; exact List.getElem_mem hkl)
      have hcell : ∀ j u, j < 5 → (opEnc x)[j]? = some u → wr.cell? ⟨ga, oa + (k * 5 + j), none⟩ = some u := fun j u hj hv => (HO.o.below.cell (p := ⟨ga, oa + (k * 5 + j), none⟩) hga).trans (hc _ _ ((opsE_at a k hkl j hj).trans (by rw [hx]; exact hv)))
      obtain ⟨xd, xu, xc, xk, xv⟩ := x
      simp only at hxs
      have k0 := hcell 0 _ (by omega) rfl
      have k1 := hcell 1 _ (by omega) rfl
      have k2 := hcell 2 _ (by omega) rfl
      have k3 := hcell 3 _ (by omega) rfl
      have k4 := hcell 4 _ (by omega) rfl
      rw [← Nat.add_assoc] at k0 k1 k2 k3 k4
      rw [Nat.add_zero] at k0
      clear hcell hc hx hkl
      have hz1 := HRUN.o.ml
      have hz2 := HRUN.o.log
      have hz3 := HRUN.o.bytes
      have hA := ownc_apply HO.o ⟨xd, xu, xc, xk, xv⟩ (birth + (k : Int) + 1) (by omega) (by omega) (by omega) (by show xc.length ≤ _; omega) (by show xu.length ≤ maxLen; unfold maxLen; omega)
      have HRUN2 := hd (HRUN.o.step (by omega) ⟨xd, xu, xc, xk, xv⟩ (by show xc.length ≤ 1000; omega))
      have HEQ : Hd (birth + (k : Int) + 1 = birth + ((k + 1 : Nat) : Int)) := hd (by omega)
      obtain ⟨er, her⟩ : ∃ x, (s.step ⟨xd, xu, xc, xk, xv⟩ (birth + (k : Int) + 1)).1 = x := ⟨_, rfl⟩
      obtain ⟨s2, hs2⟩ : ∃ x, (s.step ⟨xd, xu, xc, xk, xv⟩ (birth + (k : Int) + 1)).2 = x := ⟨_, rfl⟩
      rw [her, hs2] at hA
      rw [hs2] at HRUN2
      have HA := hd hA
      simp only [opEnc] at HA
      clear hA her hs2 hz1 hz2 hz3 hxs
      go_wp2_with fail
      refine HA.o.mono ?_
      rintro e w7 ⟨rfl, hO7, _⟩
      have HO7 := hd hO7
      clear hO7 k0 k1 k2 k3 k4
      go_wp2
      go_roundw
      case rel => exact ⟨k + 1, _, s2, by go_num, by rw [← HEQ.o], by omega, hd (by rw [← HEQ.o]; exact HRUN2.o), HO7⟩
      case measure => simp [intOf]; omega
    · obtain rfl : k = n := by omega
      have hz1 := HRUN.o.ml
      have hz2 := HRUN.o.log
      go_wp2_with fail
      refine (ownc_page HO.o 0 most (by omega) (by omega)).mono ?_
      rintro e w5 ⟨l0, er, A5, c5, rfl, hs, hrd, hO, hbb⟩
      obtain ⟨rfl, hso⟩ := since_zero_is hs
      rw [pageR_zero] at hrd
      simp only [pageR_zero]
      simp only at hrd
      have HSO := hd hso
      have HRD := hd hrd
      have HO := hd hO
      have hl0 : l0.length ≤ k := by rw [hso.1.length_eq, liveL_len]; exact hz1
      obtain ⟨q0, hq0⟩ : ∃ q, l0.length = q := ⟨_, rfl⟩
      rw [hq0] at hl0 HRD
      have HQ0 := hd hq0
      have HLA := hd (ownc_lat HO.o)
      have f1 : (s.latest != s.latest) = false := by simp
      obtain ⟨la, hla⟩ : ∃ x, s.latest = x := ⟨_, rfl⟩
      rw [hla] at HLA f1
      have HLAT := hd hla
      simp only [hq0, hla]
      clear hs hso hrd hO hbb hq0 hz1 hz2 hla
      go_wp2_with fail
      refine HLA.o.mono ?_
      rintro e w6 ⟨rfl, rfl⟩
      have HF0 := hd (foldc_start HO.o)
      clear f1
      go_wp2_with fail
      go_loopw [21, 20] (fun i sh wr => ∃ (j m : Nat) (H : ML It) (L : List It) (A6 : Option Addr) (c6 : Nat), i = .int .i64 j ∧ j ≤ q0 ∧ sh = .slice A6 m c6 ∧ m ≤ j ∧ Hd (L.length = m) ∧ Hd (Have H L) ∧ Hd (H = foldIts [] (l0.take j)) ∧ Hd (FoldC w wr bc s A6 c6 L) ∧ Hd (Rds wr A5 q0 4 (itsEnc l0))) (fun i _ _ => q0 - (intOf i).toNat)
      case atStart => exact ⟨0, 0, [], [], none, 0, rfl, Nat.zero_le _, rfl, Nat.le_refl _, hd rfl, hd Have.nil, hd rfl, HF0, HRD⟩
      case round =>
        clear HF0 HRD HO HLA
        obtain ⟨j, m, H, L, A6, c6, rfl, hj, rfl, hmj, HM, HH, HHF, HF, HRD⟩ := hrel
        have hji : (0 : Int) ≤ (j : Int) := by omega
        by_cases hlt : j < q0
        · have hlti : (j : Int) < (q0 : Int) := by omega
          have hjl : j < l0.length := by rw [HQ0.o]; exact hlt
          obtain ⟨ga, oa, hA5, hga, hc⟩ := HRD.o.at_ (by omega)
          subst hA5
          obtain ⟨x, hx⟩ : ∃ x, l0[j]'hjl = x := ⟨_, rfl⟩
          have hcell : ∀ t u, t < 4 → (itEnc x)[t]? = some u → wr.cell? ⟨ga, oa + (j * 4 + t), none⟩ = some u := fun t u ht hv => hc _ _ ((flat_at itEnc 4 itEnc_len l0 j hjl t ht).trans (by rw [hx]; exact hv))
          have hK := foldc_fold HF.o x (by rw [HM.o]; omega)
          have hll := foldL_len L x
          have hHF2 : stepIt H x = foldIts [] (l0.take (j + 1)) := by rw [List.take_succ_eq_append_getElem hjl, foldIts_snoc, ← HHF.o, hx]
          have HHF2 := hd hHF2
          have HH2 := hd (HH.o.fold x)
          rw [HM.o] at hK hll
          obtain ⟨xu, xv, xg, xc⟩ := x
          obtain ⟨L2, hL2⟩ : ∃ L2, foldL L ⟨xu, xv, xg, xc⟩ = L2 := ⟨_, rfl⟩
          obtain ⟨m2, hm2⟩ : ∃ m2, L2.length = m2 := ⟨_, rfl⟩
          rw [hL2] at hK hll HH2
          rw [hm2] at hll
          simp only [hm2, itEnc] at hK
          have HK := hd hK
          have HM2 := hd hm2
          have k0 := hcell 0 _ (by omega) rfl
          have k1 := hcell 1 _ (by omega) rfl
          have k2 := hcell 2 _ (by omega) rfl
          have k3 := hcell 3 _ (by omega) rfl
          rw [← Nat.add_assoc] at k0 k1 k2 k3
          rw [Nat.add_zero] at k0
          clear hcell hc hx hjl hK hHF2 hL2 hm2
          go_wp2_with fail
          refine HK.o.mono ?_
          rintro e w7 ⟨A7, c7, rfl, hF7, hb7⟩
          have HF7 := hd hF7
          have HRD7 := hd (HRD.o.below hb7)
          clear hF7 hb7 k0 k1 k2 k3 HK
          go_wp2
          go_roundw
          case rel => exact ⟨j + 1, m2, _, L2, A7, c7, by go_num, by omega, rfl, by omega, HM2, HH2, HHF2, HF7, HRD7⟩
          case measure => simp [intOf]; omega
        · obtain rfl : j = q0 := by omega
          have HH0 : Hd (H = foldIts [] l0) := hd (by rw [HHF.o, List.take_of_length_le (by rw [HQ0.o]; exact Nat.le_refl _)])
          have HCP : Hd (CopyOf s H la) := hd (.inr fun u _ => by rw [HH0.o]; exact fold_live HRUN.o.good.ok.rise HSO.o u)
          have HC0 : Hd (cnt s la = 0) := hd (by rw [← HLAT.o]; exact cnt_latest HRUN.o.tok)
          have HL1 : Hd (1 ≤ la ∧ la ≤ birth + (k : Int)) := hd ⟨by rw [← HLAT.o]; exact HRUN.o.pos.latest, by rw [← HLAT.o]; exact HRUN.o.le⟩
          have HLE : Hd (la ≤ s.latest) := hd (Int.le_of_eq HLAT.o.symm)
          clear HHF HSO HLAT HRD HQ0
          go_wp2_with fail
          go_loopw [22, 14] (fun i t wr => ∃ (p : Nat) (s' : Cs), i = .int .i64 p ∧ t = .int .i64 (birth + k + p) ∧ p ≤ n2 ∧ Hd (RunC s' (birth + k + p) (k + p)) ∧ Hd (CopyOf s' H la) ∧ Hd (cnt s' la ≤ p) ∧ Hd (la ≤ s'.latest) ∧ Hd (FoldC w wr bc s' A6 c6 L)) (fun i _ _ => n2 - (intOf i).toNat)
          case atStart => exact ⟨0, s, rfl, by first | rfl | (simp; done), Nat.zero_le _, hd (by have h := HRUN.o; rw [show birth + (k : Int) + ((0 : Nat) : Int) = birth + (k : Int) by simp]; exact h), HCP, hd (Nat.le_of_eq HC0.o), HLE, HF⟩
          case round =>
            clear HF HCP HC0 HLE HRUN
            obtain ⟨p, s', rfl, rfl, hp, HRUN, HCP, HC0, HLE, HF⟩ := hrel
            have hpi : (0 : Int) ≤ (p : Int) := by omega
            by_cases hlt : p < n2
            · have hlti : (p : Int) < (n2 : Int) := by omega
              have hl1 := HL1.o
              have hkl : p < b.length := by rw [← HN2.o]; exact hlt
              obtain ⟨ga, oa, rfl, hga, hc⟩ := HR2.o.at_ (by omega)
              obtain ⟨x, hx⟩ : ∃ x, b[p]'hkl = x := ⟨_, rfl⟩
              have hxs := HE2.o x (by rw [← hx]; exact List.getElem_mem hkl)
              have hcell : ∀ j u, j < 5 → (opEnc x)[j]? = some u → wr.cell? ⟨ga, oa + (p * 5 + j), none⟩ = some u := fun j u hj hv => (HF.o.below.cell (p := ⟨ga, oa + (p * 5 + j), none⟩) hga).trans (hc _ _ ((opsE_at b p hkl j hj).trans (by rw [hx]; exact hv)))
              obtain ⟨xd, xu, xc, xk, xv⟩ := x
              simp only at hxs
              have k0 := hcell 0 _ (by omega) rfl
              have k1 := hcell 1 _ (by omega) rfl
              have k2 := hcell 2 _ (by omega) rfl
              have k3 := hcell 3 _ (by omega) rfl
              have k4 := hcell 4 _ (by omega) rfl
              rw [← Nat.add_assoc] at k0 k1 k2 k3 k4
              rw [Nat.add_zero] at k0
              clear hcell hc hx hkl
              have hz1 := HRUN.o.ml
              have hz2 := HRUN.o.log
              have hz3 := HRUN.o.bytes
              have hA := foldc_apply HF.o ⟨xd, xu, xc, xk, xv⟩ (birth + (k : Int) + (p : Int) + 1) (by omega) (by omega) (by omega) (by show xc.length ≤ _; omega) (by show xu.length ≤ maxLen; unfold maxLen; omega)
              have HRUN2 := hd (HRUN.o.step (by omega) ⟨xd, xu, xc, xk, xv⟩ (by show xc.length ≤ 1000; omega))
              have HCP2 := hd (step_copy HRUN.o.good.ok HCP.o (T := birth + (k : Int) + (p : Int) + 1) (by omega) ⟨xd, xu, xc, xk, xv⟩)
              have HC2 := hd (cnt_step (s := s') ⟨xd, xu, xc, xk, xv⟩ (birth + (k : Int) + (p : Int) + 1) la)
              have HLE2 := hd (Int.le_trans HLE.o (Cs.step_latest (s := s') ⟨xd, xu, xc, xk, xv⟩ (t := birth + (k : Int) + (p : Int) + 1) (by have := HRUN.o.le; omega)).1)
              have HEQ : Hd (birth + (k : Int) + (p : Int) + 1 = birth + (k : Int) + ((p + 1 : Nat) : Int)) := hd (by omega)
              obtain ⟨er, her⟩ : ∃ x, (s'.step ⟨xd, xu, xc, xk, xv⟩ (birth + (k : Int) + (p : Int) + 1)).1 = x := ⟨_, rfl⟩
              obtain ⟨s2, hs2⟩ : ∃ x, (s'.step ⟨xd, xu, xc, xk, xv⟩ (birth + (k : Int) + (p : Int) + 1)).2 = x := ⟨_, rfl⟩
              rw [her, hs2] at hA
              rw [hs2] at HRUN2 HCP2 HC2 HLE2
              have HA := hd hA
              simp only [opEnc] at HA
              clear hA her hs2 hz1 hz2 hz3 hxs hl1
              go_wp2_with fail
              refine HA.o.mono ?_
              rintro e w7 ⟨rfl, hF7⟩
              have HF7 := hd hF7
              clear hF7 k0 k1 k2 k3 k4
              go_wp2
              go_roundw
              case rel => exact ⟨p + 1, s2, by go_num, by rw [← HEQ.o], by omega, hd (by rw [← HEQ.o]; exact HRUN2.o), HCP2, hd (by have h1 := HC2.o; have h2 := HC0.o; omega), HLE2, HF7⟩
              case measure => simp [intOf]; omega
            · obtain rfl : p = n2 := by omega
              go_wp2_with fail
              have HX0 : Hd (∃ _ : Nat, True) := hd ⟨0, trivial⟩
              have hm40 : m ≤ 20 := by omega
              clear hmj
              go_loopw [23, 17, 20, 12, 24, 25, 26, 27, 28] (fun i sn sh _ _ _ _ _ _ wr => ∃ (z m : Nat) (nx : Int) (H : ML It) (L : List It) (A6 : Option Addr) (c6 : Nat), i = .int .i64 z ∧ z ≤ p ∧ sn = .int .i64 nx ∧ sh = .slice A6 m c6 ∧ m ≤ 20 + 40 * z ∧ Hd (1 ≤ nx) ∧ Hd (nx ≤ s'.latest) ∧ Hd (cnt s' nx + z ≤ p) ∧ Hd (L.length = m) ∧ Hd (Have H L) ∧ Hd (CopyOf s' H nx) ∧ Hd (FoldC w wr bc s' A6 c6 L)) (fun i _ _ _ _ _ _ _ _ _ => p + 1 - (intOf i).toNat)
              case atStart => exact ⟨0, m, la, H, L, A6, c6, rfl, Nat.zero_le _, rfl, rfl, by omega, hd HL1.o.1, HLE, hd (by have := HC0.o; omega), HM, HH, HCP, HF⟩
              case round =>
                clear HF HCP HC0 HLE HM HH HL1
                obtain ⟨z, m, nx, H, L, A6, c6, rfl, hz, rfl, rfl, hmz, HNX1, HNX2, HC0, HM, HH, HCP, HF⟩ := hrel
                have hzi : (0 : Int) ≤ (z : Int) := by omega
                have d1 : decide ((z : Int) ≤ (p : Int)) = true := by simp; omega
                have hz1 := HRUN.o.ml
                have hz2 := HRUN.o.log
                go_wp2_with fail
                refine (ownc_page HF.o.own nx most (by omega) (by omega)).mono ?_
                rintro e w5 ⟨l1, er, A5, c5, rfl, hs, hrd, _, hbb⟩
                have HF5 := hd (HF.o.bel hbb)
                have hle := since_len hs
                clear d1 hbb
                by_cases he : er = 0
                · subst he
                  rw [pageR_ok] at hrd
                  simp only [pageR_ok]
                  obtain ⟨hPG, hUP, hEND⟩ := page_next HRUN.o HNX1.o HNX2.o HH.o.rise HCP.o hs most
                  obtain ⟨R, hR⟩ : ∃ R, pageP l1 nx most s'.latest = R := ⟨_, rfl⟩
                  rw [hR] at hPG hUP hEND hrd
                  simp only [hR]
                  clear hR
                  obtain ⟨pg, tn, mo⟩ := R
                  simp only at hPG hUP hEND hrd ⊢
                  have hpl := hPG.len
                  obtain ⟨q1, hq1⟩ : ∃ q, pg.length = q := ⟨_, rfl⟩
                  rw [hq1] at hrd hpl
                  simp only [hq1]
                  have hq40 : q1 ≤ 40 := by rcases hle with h | h <;> omega
                  have HQ1 := hd hq1
                  have HRD := hd hrd
                  have HPG := hd hPG
                  have HUP := hd hUP
                  have HEND := hd hEND
                  have f1 : decide (tn < nx) = false := by have := hPG.le; simp; omega
                  have f2 : mo = true → (tn == nx) = false := fun h => by have := (hPG.new h).1; simp; omega
                  clear hPG hUP hEND hrd hs hle hpl hq1
                  have HF2 := hd f2
                  clear f2
                  cases mo with
                  | true =>
                    have f2 := HF2.o rfl
                    go_wp2_with fail
                    clear f1 f2
                    go_loopw [28, 20] (fun i sh wr => ∃ (j m : Nat) (H2 : ML It) (L : List It) (A6 : Option Addr) (c6 : Nat), i = .int .i64 j ∧ j ≤ q1 ∧ sh = .slice A6 m c6 ∧ m ≤ 20 + 40 * z + j ∧ Hd (L.length = m) ∧ Hd (Have H2 L) ∧ Hd (H2 = foldIts H (pg.take j)) ∧ Hd (FoldC w wr bc s' A6 c6 L) ∧ Hd (Rds wr A5 q1 4 (itsEnc pg))) (fun i _ _ => q1 - (intOf i).toNat)
                    case atStart => exact ⟨0, m, H, L, A6, c6, rfl, Nat.zero_le _, rfl, by omega, HM, HH, hd rfl, HF5, HRD⟩
                    case round =>
                      clear HF HF5 HRD HM HH
                      obtain ⟨j, m, H2, L, A6, c6, rfl, hj, rfl, hmj, HM, HH, HHF, HF, HRD⟩ := hrel
                      have hji : (0 : Int) ≤ (j : Int) := by omega
                      by_cases hlt : j < q1
                      · have hlti : (j : Int) < (q1 : Int) := by omega
                        have hjl : j < pg.length := by rw [HQ1.o]; exact hlt
                        obtain ⟨ga, oa, hA5, hga, hc⟩ := HRD.o.at_ (by omega)
                        subst hA5
                        obtain ⟨x, hx⟩ : ∃ x, pg[j]'hjl = x := ⟨_, rfl⟩
                        have hcell : ∀ t u, t < 4 → (itEnc x)[t]? = some u → wr.cell? ⟨ga, oa + (j * 4 + t), none⟩ = some u := fun t u ht hv => hc _ _ ((flat_at itEnc 4 itEnc_len pg j hjl t ht).trans (by rw [hx]; exact hv))
                        have hK := foldc_fold HF.o x (by rw [HM.o]; omega)
                        have hll := foldL_len L x
                        have hHF2 : stepIt H2 x = foldIts H (pg.take (j + 1)) := by rw [List.take_succ_eq_append_getElem hjl, foldIts_snoc, ← HHF.o, hx]
                        have HHF2 := hd hHF2
                        have HH2 := hd (HH.o.fold x)
                        rw [HM.o] at hK hll
                        obtain ⟨xu, xv, xg, xc⟩ := x
                        obtain ⟨L2, hL2⟩ : ∃ L2, foldL L ⟨xu, xv, xg, xc⟩ = L2 := ⟨_, rfl⟩
                        obtain ⟨m2, hm2⟩ : ∃ m2, L2.length = m2 := ⟨_, rfl⟩
                        rw [hL2] at hK hll HH2
                        rw [hm2] at hll
                        simp only [hm2, itEnc] at hK
                        have HK := hd hK
                        have HM2 := hd hm2
                        have k0 := hcell 0 _ (by omega) rfl
                        have k1 := hcell 1 _ (by omega) rfl
                        have k2 := hcell 2 _ (by omega) rfl
                        have k3 := hcell 3 _ (by omega) rfl
                        rw [← Nat.add_assoc] at k0 k1 k2 k3
                        rw [Nat.add_zero] at k0
                        clear hcell hc hx hjl hK hHF2 hL2 hm2
                        go_wp2_with fail
                        refine HK.o.mono ?_
                        rintro e w7 ⟨A7, c7, rfl, hF7, hb7⟩
                        have HF7 := hd hF7
                        have HRD7 := hd (HRD.o.below hb7)
                        clear hF7 hb7 k0 k1 k2 k3 HK
                        go_wp2
                        go_roundw
                        case rel => exact ⟨j + 1, m2, _, L2, A7, c7, by go_num, by omega, rfl, by omega, HM2, HH2, HHF2, HF7, HRD7⟩
                        case measure => simp [intOf]; omega
                      · obtain rfl : j = q1 := by omega
                        have HH2 : Hd (H2 = foldIts H pg) := hd (by rw [HHF.o, List.take_of_length_le (by rw [HQ1.o]; exact Nat.le_refl _)])
                        clear HHF HRD HQ1
                        have HN1 : Hd (1 ≤ tn ∧ tn ≤ s'.latest ∧ cnt s' tn + (z + 1) ≤ p ∧ z + 1 ≤ p) := hd (by
                          have h1 := HPG.o.le
                          have h2 := HPG.o.lelatest
                          have h3 := HPG.o.new rfl
                          have h4 := HNX1.o
                          have h5 := HC0.o
                          exact ⟨by omega, h2, by omega, by omega⟩)
                        have hzp := HN1.o.2.2.2
                        go_wp2
                        go_roundw
                        case rel => exact ⟨z + 1, m, tn, H2, L, A6, c6, by go_num, by omega, rfl, rfl, by omega, hd HN1.o.1, hd HN1.o.2.1, hd HN1.o.2.2.1, HM, HH, hd (.inr (by rw [HH2.o]; exact HUP.o)), HF⟩
                        case measure => simp [intOf]; omega
                  | false =>
                    go_wp2_with fail
                    clear f1
                    go_loopw [28, 20] (fun i sh wr => ∃ (j m : Nat) (H2 : ML It) (L : List It) (A6 : Option Addr) (c6 : Nat), i = .int .i64 j ∧ j ≤ q1 ∧ sh = .slice A6 m c6 ∧ m ≤ 20 + 40 * z + j ∧ Hd (L.length = m) ∧ Hd (Have H2 L) ∧ Hd (H2 = foldIts H (pg.take j)) ∧ Hd (FoldC w wr bc s' A6 c6 L) ∧ Hd (Rds wr A5 q1 4 (itsEnc pg))) (fun i _ _ => q1 - (intOf i).toNat)
                    case atStart => exact ⟨0, m, H, L, A6, c6, rfl, Nat.zero_le _, rfl, by omega, HM, HH, hd rfl, HF5, HRD⟩
                    case round =>
                      clear HF HF5 HRD HM HH
                      obtain ⟨j, m, H2, L, A6, c6, rfl, hj, rfl, hmj, HM, HH, HHF, HF, HRD⟩ := hrel
                      have hji : (0 : Int) ≤ (j : Int) := by omega
                      by_cases hlt : j < q1
                      · have hlti : (j : Int) < (q1 : Int) := by omega
                        have hjl : j < pg.length := by rw [HQ1.o]; exact hlt
                        obtain ⟨ga, oa, hA5, hga, hc⟩ := HRD.o.at_ (by omega)
                        subst hA5
                        obtain ⟨x, hx⟩ : ∃ x, pg[j]'hjl = x := ⟨_, rfl⟩
                        have hcell : ∀ t u, t < 4 → (itEnc x)[t]? = some u → wr.cell? ⟨ga, oa + (j * 4 + t), none⟩ = some u := fun t u ht hv => hc _ _ ((flat_at itEnc 4 itEnc_len pg j hjl t ht).trans (by rw [hx]; exact hv))
                        have hK := foldc_fold HF.o x (by rw [HM.o]; omega)
                        have hll := foldL_len L x
                        have hHF2 : stepIt H2 x = foldIts H (pg.take (j + 1)) := by rw [List.take_succ_eq_append_getElem hjl, foldIts_snoc, ← HHF.o, hx]
                        have HHF2 := hd hHF2
                        have HH2 := hd (HH.o.fold x)
                        rw [HM.o] at hK hll
                        obtain ⟨xu, xv, xg, xc⟩ := x
                        obtain ⟨L2, hL2⟩ : ∃ L2, foldL L ⟨xu, xv, xg, xc⟩ = L2 := ⟨_, rfl⟩
                        obtain ⟨m2, hm2⟩ : ∃ m2, L2.length = m2 := ⟨_, rfl⟩
                        rw [hL2] at hK hll HH2
                        rw [hm2] at hll
                        simp only [hm2, itEnc] at hK
                        have HK := hd hK
                        have HM2 := hd hm2
                        have k0 := hcell 0 _ (by omega) rfl
                        have k1 := hcell 1 _ (by omega) rfl
                        have k2 := hcell 2 _ (by omega) rfl
                        have k3 := hcell 3 _ (by omega) rfl
                        rw [← Nat.add_assoc] at k0 k1 k2 k3
                        rw [Nat.add_zero] at k0
                        clear hcell hc hx hjl hK hHF2 hL2 hm2
                        go_wp2_with fail
                        refine HK.o.mono ?_
                        rintro e w7 ⟨A7, c7, rfl, hF7, hb7⟩
                        have HF7 := hd hF7
                        have HRD7 := hd (HRD.o.below hb7)
                        clear hF7 hb7 k0 k1 k2 k3 HK
                        go_wp2
                        go_roundw
                        case rel => exact ⟨j + 1, m2, _, L2, A7, c7, by go_num, by omega, rfl, by omega, HM2, HH2, HHF2, HF7, HRD7⟩
                        case measure => simp [intOf]; omega
                      · obtain rfl : j = q1 := by omega
                        have HH2 : Hd (H2 = foldIts H pg) := hd (by rw [HHF.o, List.take_of_length_le (by rw [HQ1.o]; exact Nat.le_refl _)])
                        clear HHF HRD HQ1
                        have htl : tn = s'.latest := HPG.o.last rfl
                        have HLV : Hd (L = liveL s'.ml) := hd (by rw [HH.o.is, HH2.o]; first | exact HEND.o rfl | exact HEND.o trivial)
                        have HLA := hd (ownc_lat HF.o.own)
                        rw [← htl] at HLA
                        have HLI := hd (ownc_live HF.o.own (by omega))
                        have hlen : s'.ml.length = m := by rw [← HM.o, HLV.o, liveL_len]
                        have HRL := hd HF.o.rds
                        rw [HM.o] at HRL
                        have hI := fun (wr : World) (A1 A2 : Option Addr) (c1 c2 : Nat) (h1 : Rds wr A1 m 4 (itsEnc L)) (h2 : Rds wr A2 m 4 (itsEnc L)) => its_calls wr A1 A2 m m c1 c2 L L HM.o.symm HM.o.symm h1 h2 (by omega) (by omega)
                        rw [decide_eq_true (rfl : L = L)] at hI
                        have HI := hd hI
                        rw [hlen, ← HLV.o] at HLI
                        have f1 : (tn == tn) = true := by simp
                        clear hI htl hlen
                        go_wp2_with fail
                        refine HLA.o.mono ?_
                        rintro e w8 ⟨rfl, rfl⟩
                        go_wp2_with fail
                        refine HLI.o.mono ?_
                        rintro e w9 ⟨A9, c9, rfl, hr9, hb9⟩
                        have HR9 := hd hr9.rds
                        have HRL9 := hd (HRL.o.below hb9)
                        have HB9 := hd (HF.o.bel hb9).below
                        clear hr9 hb9
                        go_wp2_with fail
                        refine (HI.o _ _ _ _ _ HRL9.o HR9.o).mono ?_
                        rintro e w11 ⟨rfl, hb11⟩
                        have HB11 := hd (HB9.o.trans (hb11.mono HB9.o.size))
                        clear hb11
                        go_wp2
                        go_ret
                        exact ⟨rfl, HB11.o⟩
                · obtain ⟨rfl, hlt8⟩ := since_err hs he HNX2.o
                  have f1 : decide (nx < s'.horizon) = true := by simpa using hlt8
                  have HHO := hd (ownc_hor HF5.o.own)
                  clear hs hle hrd hlt8 he
                  go_wp2_with fail
                  refine HHO.o.mono ?_
                  rintro e w6 ⟨rfl, rfl⟩
                  go_wp2
                  go_ret
                  exact ⟨rfl, HF5.o.below⟩

theorem lfolds_calls (w : World) (birth cards log : Int) (A : Option Addr) (n c : Nat) (a : List OpV) (A2 : Option Addr) (n2 c2 : Nat) (b : List OpV) (most : Int) (hr : Rds w A n 5 (opsE a)) (hn : n = a.length) (hm : n ≤ maxLen) (hok : ∀ x ∈ a, OpOk x)
    (hr2 : Rds w A2 n2 5 (opsE b)) (hn2 : n2 = b.length) (hm2 : n2 ≤ maxLen) (hok2 : ∀ x ∈ b, OpOk x) :
    Calls Try.prog 13 #[.int .i64 birth, .int .i64 cards, .int .i64 log, .slice A n c, .slice A2 n2 c2, .int .i64 most] w fun e w' => e = .returned (.bool true) ∧ Below w.heap.size w w' := by
  by_cases h : fewP a = false ∨ fewP b = false ∨ birth < 1 ∨ 1099511627776 < birth
  · exact lfolds_early w birth cards log A n c a A2 n2 c2 b most hr hn hm hok hr2 hn2 hm2 hok2 h
  · have h1 : fewP a = true := by cases ha : fewP a with | true => rfl | false => exact absurd (.inl ha) h
    have h2 : fewP b = true := by cases hb : fewP b with | true => rfl | false => exact absurd (.inr (.inl hb)) h
    have h3 : ¬ birth < 1 := fun hh => h (.inr (.inr (.inl hh)))
    have h4 : ¬ 1099511627776 < birth := fun hh => h (.inr (.inr (.inr hh)))
    exact lfolds_main w birth cards log A n c a A2 n2 c2 b most hr hn hm hok hr2 hn2 hm2 hok2 h1 h2 (by omega) (by omega)

end Go.Proofs.Ytbeckfnhgeclnaa
/-
  ColFolds: whatever the arguments, the call returns true, and all reads as it did. No condition.
-/
namespace Go.Proofs.Ytbeckfnhgeclnaa.colFoldsLaw
open Go.ChangeShapes Go.WideShapes Go.ChangeAt Go.RowKit

set_option maxRecDepth 100000 in
theorem lifted (os : Os) (started : os.Started) (H : Type) (enc : TypeId × Value → H) :
    ReturnsInHanded {} Try.checked os 13 .any (Rows.colFoldsSpec.pre6 enc Try.prog Try.f13 Rows.colFoldsRow.domain false) (Rows.colFoldsSpec.post enc Try.prog Try.f13 false true false false) := by
  refine returnsInHanded_of_change (C := Try.checked) own started (by kernel_rfl) Try.func13
    (ChangeSpec.witness6 (enc := enc) (C := Try.checked) false ⟨#[], #[.int .i64 0, .int .i64 0, .int .i64 0, .slice none 0 0, .slice none 0 0, .int .i64 0], []⟩ 8 (by kernel_rfl) (by kernel_rfl) (by kernel_rfl) (by kernel_rfl)) ?_
  intro W base args ds gs before hval0 hW hcnd _
  have hval : ∀ (j : Nat) t v, Try.f13.params[j]? = some t → args[j]? = some v → Value.okWide Try.prog W .any base t v := hval0
  have hW' := hW
  obtain ⟨p, q, hA0, hV, rfl, hfz, hnd⟩ := hW
  have hA : DataW.TrodAll enc Try.prog W 0 (fun _ => true) true Try.f13.params.toList args.toList ds p := hA0
  rw [Try.params13] at hA hval
  obtain ⟨v0, vs0, d0, ds0, p0, q0, hargs0, rfl, rfl, h0, r0⟩ := trodAll_cons hA
  obtain ⟨v1, vs1, d1, ds1, p1, q1, hargs1, rfl, rfl, h1, r1⟩ := trodAll_cons r0
  obtain ⟨v2, vs2, d2, ds2, p2, q2, hargs2, rfl, rfl, h2, r2⟩ := trodAll_cons r1
  obtain ⟨v3, vs3, d3, ds3, p3, q3, hargs3, rfl, rfl, h3, r3⟩ := trodAll_cons r2
  obtain ⟨v4, vs4, d4, ds4, p4, q4, hargs4, rfl, rfl, h4, r4⟩ := trodAll_cons r3
  obtain ⟨v5, vs5, d5, ds5, p5, q5, hargs5, rfl, rfl, h5, r5⟩ := trodAll_cons r4
  obtain ⟨rfl, rfl, rfl⟩ := trodAll_nil r5
  obtain rfl : args = #[v0, v1, v2, v3, v4, v5] := by cases args; simp_all
  obtain ⟨rfl, rfl⟩ := trodVars_none hV
  have lt0 : ∀ x ∈ p0, x.block < W.heap.size := by obtain ⟨m, hm⟩ := h0; exact DataW.trod_lt m _ _ _ hm
  have lt1 : ∀ x ∈ p1, x.block < W.heap.size := by obtain ⟨m, hm⟩ := h1; exact DataW.trod_lt m _ _ _ hm
  have lt2 : ∀ x ∈ p2, x.block < W.heap.size := by obtain ⟨m, hm⟩ := h2; exact DataW.trod_lt m _ _ _ hm
  have lt3 : ∀ x ∈ p3, x.block < W.heap.size := by obtain ⟨m, hm⟩ := h3; exact DataW.trod_lt m _ _ _ hm
  have lt4 : ∀ x ∈ p4, x.block < W.heap.size := by obtain ⟨m, hm⟩ := h4; exact DataW.trod_lt m _ _ _ hm
  have lt5 : ∀ x ∈ p5, x.block < W.heap.size := by obtain ⟨m, hm⟩ := h5; exact DataW.trod_lt m _ _ _ hm
  have g0 := h0
  have g1 := h1
  have g2 := h2
  have g3 := h3
  have g4 := h4
  have g5 := h5
  obtain ⟨x0, rfl, lo0, hi0⟩ := open_int (k := .i64) Try.underlying2 (hval 0 2 v0 rfl rfl) g0
  obtain ⟨x1, rfl, lo1, hi1⟩ := open_int (k := .i64) Try.underlying3 (hval 1 3 v1 rfl rfl) g1
  obtain ⟨x2, rfl, lo2, hi2⟩ := open_int (k := .i64) Try.underlying3 (hval 2 3 v2 rfl rfl) g2
  obtain ⟨A3, n3, c3, rfl⟩ := okWide_slice Try.underlying75 (hval 3 75 v3 rfl rfl)
  obtain ⟨l3, rd3, ln3, mx3, ok3⟩ := rds_of_ops Try.underlying75 g3
  obtain ⟨A4, n4, c4, rfl⟩ := okWide_slice Try.underlying75 (hval 4 75 v4 rfl rfl)
  obtain ⟨l4, rd4, ln4, mx4, ok4⟩ := rds_of_ops Try.underlying75 g4
  obtain ⟨x5, rfl, lo5, hi5⟩ := open_int (k := .i64) Try.underlying3 (hval 5 3 v5 rfl rfl) g5
  clear hA0 hval0
  refine (lfolds_calls W x0 x1 x2 A3 n3 c3 l3 A4 n4 c4 l4 x5 rd3 ln3 mx3 ok3 rd4 ln4 mx4 ok4).mono fun e W' ⟨he, bel⟩ => ?_
  subst he
  exact ⟨_, rfl, _, _, _, [], _, [], hW', trodAll_mk1 (shut_bool Try.underlying4 _), (trodAll_cons_mk (Below.trod laidOut (by kernel_rfl) (of_decide_eq_true (by kernel_rfl)) h0 bel lt0) (trodAll_cons_mk (Below.trod laidOut (by kernel_rfl) (of_decide_eq_true (by kernel_rfl)) h1 bel lt1) (trodAll_cons_mk (Below.trod laidOut (by kernel_rfl) (of_decide_eq_true (by kernel_rfl)) h2 bel lt2) (trodAll_cons_mk (Below.trod laidOut (by kernel_rfl) (of_decide_eq_true (by kernel_rfl)) h3 bel lt3) (trodAll_cons_mk (Below.trod laidOut (by kernel_rfl) (of_decide_eq_true (by kernel_rfl)) h4 bel lt4) (trodAll_cons_mk (Below.trod laidOut (by kernel_rfl) (of_decide_eq_true (by kernel_rfl)) h5 bel lt5) trodAll_mk0)))))), rfl, bel.frame _, fun h => by cases h⟩

theorem over : Rows.colFoldsRow.holds Try.pinned (OpenSpec.ofChange Rows.colFoldsSpec) :=
  OpenClaim.holds_of_wide 13 Try.f13 rfl rfl rfl rfl rfl rfl rfl ⟨rfl, rfl, rfl, rfl, rfl⟩ rfl rfl rfl rfl rfl (by kernel_rfl) Try.func13 (by kernel_rfl)
    (of_decide_eq_true (by kernel_rfl)) (by unfold Func.isWrapper; first | (rw [if_pos (by decide +kernel)]; kernel_rfl) | (rw [if_neg (by decide +kernel)]; exact ⟨rfl, rfl⟩))
    (fun os started H enc _ => lifted os started H enc)

/-- The statement. -/
theorem proved : Rows.ColFoldsSaid := over
end Go.Proofs.Ytbeckfnhgeclnaa.colFoldsLaw
