/-
  Split: the program's, the reference's.
-/
import Derived.Test.YtbeckfnhgeclnaaItSort
import Derived.Test.YtbeckfnhgeclnaaIts
import Derived.BigQuiet
import Derived.Deep.QuietTactic
set_option linter.unusedVariables false
set_option linter.unusedSimpArgs false
namespace Go.Proofs.Ytbeckfnhgeclnaa
open Go.RowKit Go.Lib

def verIs (l : List It) (v : Int) : Bool := l.any fun x => x.ver == v
theorem verIs_snoc (l : List It) (x : It) (v : Int) : verIs (l ++ [x]) v = (verIs l v || (x.ver == v)) := by simp [verIs]
/-- May the list be cut at n? -/
def cutOk (l : List It) (n : Nat) : Bool := !verIs (l.drop n) (l.getD (n - 1) default).ver
def splitG (l : List It) : Nat → Nat → Nat
  | 0, _ => l.length
  | f + 1, n => if n < l.length then (if cutOk l n = true then n else splitG l f (n + 1)) else l.length
def splitV (l : List It) (v : Int) : Nat := splitG l (l.length - v.toNat) v.toNat
def splitP (l : List It) (most : Int) : Nat := splitV l (max most 1)
theorem splitV_end {l : List It} {v : Int} (h : ¬ v < l.length) (h1 : 0 ≤ v) : splitV l v = l.length := by
  unfold splitV
  rw [show l.length - v.toNat = 0 by omega]
  rfl
theorem splitV_step {l : List It} {n : Nat} (h : n < l.length) : splitV l n = if cutOk l n = true then n else splitV l ((n : Int) + 1) := by
  unfold splitV
  rw [show l.length - (n : Int).toNat = (l.length - (n + 1)) + 1 by omega, show ((n : Int)).toNat = n by omega, show ((n : Int) + 1).toNat = n + 1 by omega]
  simp only [splitG, if_pos h]
theorem splitG_le (l : List It) : ∀ f n, splitG l f n ≤ l.length
  | 0, _ => Nat.le_refl _
  | f + 1, n => by
    unfold splitG
    split
    · split
      · omega
      · exact splitG_le l f (n + 1)
    · exact Nat.le_refl _
theorem splitP_le (l : List It) (most : Int) : splitP l most ≤ l.length := splitG_le _ _ _

theorem Rds.drop {w : World} {A : Option Addr} {n : Nat} {l : List It} (h : Rds w A n 4 (itsEnc l)) (m : Nat) (hm : m < n) : ∃ g o, A = some ⟨g, o, none⟩ ∧ Rds w (some ⟨g, o + m * 4, none⟩) (n - m) 4 (itsEnc (l.drop m)) := by
  obtain ⟨g, o, hA, hg, hc⟩ := h.at_ (by omega)
  have hl := h.len
  refine ⟨g, o, hA, ⟨?_, fun _ => ⟨g, o + m * 4, rfl, hg, fun j u hu => ?_⟩⟩⟩
  · rw [itsEnc_len] at hl ⊢
    rw [List.length_drop]
    have : l.length = n := by omega
    omega
  · have e : itsEnc (l.drop m) = (itsEnc l).drop (m * 4) := (flat_drop itEnc 4 itEnc_len l m).symm
    rw [e, List.getElem?_drop] at hu
    have := hc _ _ hu
    rw [← Nat.add_assoc] at this
    exact this

theorem split1_calls (w : World) (x : It) (b : Nat) (v : Int) (hb : w.cell? ⟨b, 0, none⟩ = some (.int .i64 v)) (hl : b < w.heap.size) :
    Calls Try.prog 78 #[.agg (itEnc x).toArray, .pointer (some ⟨b, 0, none⟩)] w fun e w' => e = .returned (.bool (x.ver == v)) ∧ w.alloc (.cells (itEnc x).toArray 41) = w' := by
  obtain ⟨xu, xv, xg, xc⟩ := x
  simp only [itEnc]
  go_enter Try.func78, Try.ntmps78
  go_wp2
  go_ret
  exact ⟨rfl, rfl⟩

set_option maxRecDepth 100000 in
set_option maxHeartbeats 2000000 in
theorem ifI_calls (w : World) (A : Option Addr) (n c : Nat) (l : List It) (b : Nat) (v : Int) (hr : Rds w A n 4 (itsEnc l)) (hn : n = l.length) (hm : n ≤ 1000000) (hb : w.cell? ⟨b, 0, none⟩ = some (.int .i64 v)) (hl : b < w.heap.size) :
    Calls Try.prog 95 #[.slice A n c, .func (.func 78) #[] #[.pointer (some ⟨b, 0, none⟩)]] w fun e w' => ∃ i : Int, e = .returned (.int .i64 i) ∧ decide (0 ≤ i) = verIs l v ∧ Below w.heap.size w w' := by
  have HR := hd hr
  have HN := hd hn
  have HC := hd (fun wr (hbe : Below w.heap.size w wr) (x : It) => split1_calls wr x b v ((hbe.cell (p := ⟨b, 0, none⟩) hl).trans hb) (Nat.lt_of_lt_of_le hl hbe.size))
  clear hr hn hb
  go_enter Try.func95, Try.ntmps95
  go_wp2_with fail
  go_loopw [8, 5] (fun s8 s5 wr => ∃ k : Nat, s8 = .int .i64 k ∧ k ≤ n ∧ Hd (verIs (l.take k) v = false) ∧ Hd (Below w.heap.size w wr)) (fun s8 _ _ => n - (intOf s8).toNat)
  case atStart => exact ⟨0, rfl, Nat.zero_le _, hd rfl, hd (Below.refl _ _)⟩
  case round =>
    obtain ⟨k, rfl, hk, HV, HB⟩ := hrel
    have hki : (0 : Int) ≤ (k : Int) := by omega
    by_cases hlt : k < n
    · have hlti : (k : Int) < (n : Int) := by omega
      have hkl : k < l.length := by rw [← HN.o]; exact hlt
      obtain ⟨g, o, rfl, hg, hc⟩ := HR.o.at_ (by omega)
      obtain ⟨x, hx⟩ : ∃ x, l[k]'hkl = x := ⟨_, rfl⟩
      have HT : Hd (l.take (k + 1) = l.take k ++ [x]) := hd (by rw [List.take_succ_eq_append_getElem hkl, hx])
      have HMEM : Hd (x ∈ l) := hd (by rw [← hx]; exact List.getElem_mem hkl)
      have hcell : ∀ j u, j < 4 → (itEnc x)[j]? = some u → wr.cell? ⟨g, o + (k * 4 + j), none⟩ = some u := fun j u hj hv => (HB.o.cell (p := ⟨g, o + (k * 4 + j), none⟩) hg).trans (hc _ _ ((flat_at itEnc 4 itEnc_len l k hkl j hj).trans (by rw [hx]; exact hv)))
      have hcall := hd (HC.o wr HB.o x)
      obtain ⟨xu, xv, xg, xc⟩ := x
      have k0 := hcell 0 _ (by omega) rfl
      have k1 := hcell 1 _ (by omega) rfl
      have k2 := hcell 2 _ (by omega) rfl
      have k3 := hcell 3 _ (by omega) rfl
      rw [← Nat.add_assoc] at k0 k1 k2 k3
      rw [Nat.add_zero] at k0
      simp only [itEnc] at hcall
      obtain ⟨bq, hbq⟩ : ∃ q : Bool, (xv == v) = q := ⟨_, rfl⟩
      rw [hbq] at hcall
      have HBQ := hd hbq
      clear hcell hc hx hkl hbq
      go_wp2_with fail
      refine hcall.o.mono ?_
      rintro e w1 ⟨rfl, rfl⟩
      have HB1 := hd (HB.o.alloc HB.o.size (.cells #[.string (bs xu), .int .i64 xv, .bool xg, .string (bs xc)] 41))
      cases bq with
      | true =>
        go_wp2
        go_ret
        refine ⟨(k : Int), rfl, ?_, HB1.o⟩
        rw [decide_eq_true hki]
        symm
        simp only [verIs, List.any_eq_true]
        exact ⟨_, HMEM.o, HBQ.o⟩
      | false =>
        have HV2 : Hd (verIs (l.take (k + 1)) v = false) := hd (by rw [HT.o, verIs_snoc, HV.o]; simpa using HBQ.o)
        go_wp2
        go_roundw
        case rel => exact ⟨k + 1, by go_num, by omega, HV2, HB1⟩
        case measure => simp [intOf]; omega
    · obtain rfl : k = n := by omega
      have HE : Hd (l.take k = l) := hd (List.take_of_length_le (by rw [← HN.o]; exact Nat.le_refl _))
      go_wp2
      go_ret
      refine ⟨-1, rfl, ?_, HB.o⟩
      have := HV.o
      rw [HE.o] at this
      rw [this]
      rfl
theorem cfI_calls (w : World) (A : Option Addr) (n c : Nat) (l : List It) (b : Nat) (v : Int) (hr : Rds w A n 4 (itsEnc l)) (hn : n = l.length) (hm : n ≤ 1000000) (hb : w.cell? ⟨b, 0, none⟩ = some (.int .i64 v)) (hl : b < w.heap.size) :
    Calls Try.prog 77 #[.slice A n c, .func (.func 78) #[] #[.pointer (some ⟨b, 0, none⟩)]] w fun e w' => e = .returned (.bool (verIs l v)) ∧ Below w.heap.size w w' := by
  have hc := hd (ifI_calls w A n c l b v hr hn hm hb hl)
  clear hr hn hb
  go_enter Try.func77, Try.ntmps77
  go_wp2_with fail
  refine hc.o.mono ?_
  rintro e w1 ⟨i, rfl, hi, hb1⟩
  have HI := hd hi
  clear hi
  go_wp2
  go_ret
  exact ⟨ret_bool (by rw [← HI.o]), hb1⟩

set_option maxRecDepth 100000 in
set_option maxHeartbeats 2000000 in
theorem csplit_calls (w : World) (A : Option Addr) (n c : Nat) (l : List It) (most : Int) (hr : Rds w A n 4 (itsEnc l)) (hn : n = l.length) (hm : n ≤ 1000000) (hnc : n ≤ c) :
    Calls Try.prog 48 #[.slice A n c, .int .i64 most] w fun e w' => e = .returned (.int .i64 (splitP l most : Nat)) ∧ Below w.heap.size w w' := by
  have HR := hd hr
  have HN := hd hn
  obtain ⟨res, hres⟩ : ∃ r, splitP l most = r := ⟨_, rfl⟩
  have HP : Hd (splitV l (max most 1) = res) := hd hres
  rw [hres]
  clear hr hn hres
  go_enter Try.func48, Try.ntmps48
  go_wp2_with fail
  all_goals
    go_loopw [5] (fun s5 wr => ∃ v : Int, s5 = .int .i64 v ∧ 1 ≤ v ∧ Hd (splitV l v = res) ∧ Hd (Below w.heap.size w wr)) (fun s5 _ => n - (intOf s5).toNat)
    case atStart => exact ⟨max most 1, rfl, by omega, HP, hd (Below.refl _ _)⟩
    case round =>
      obtain ⟨v, rfl, hv1, HS, HB⟩ := hrel
      by_cases hlt : v < n
      · obtain ⟨k, rfl⟩ : ∃ k : Nat, v = k := ⟨v.toNat, by omega⟩
        have hkn : k < n := by omega
        have hkl : k < l.length := by rw [← HN.o]; exact hkn
        obtain ⟨g, o, rfl, hg, hc⟩ := HR.o.at_ (by omega)
        obtain ⟨g', o', hA', hdr⟩ := HR.o.drop k hkn
        injection hA' with hA'
        injection hA' with e1 e2
        subst e1 e2
        obtain ⟨p, hp⟩ : ∃ p : Nat, k = p + 1 := ⟨k - 1, by omega⟩
        have hpl : p < l.length := by omega
        obtain ⟨x, hx⟩ : ∃ x, l[p]'hpl = x := ⟨_, rfl⟩
        have k1 : wr.cell? ⟨g, o + (p * 4 + 1), none⟩ = some (.int .i64 x.ver) := (HB.o.cell (p := ⟨g, o + (p * 4 + 1), none⟩) hg).trans (hc _ _ ((flat_at itEnc 4 itEnc_len l p hpl 1 (by omega)).trans (by rw [hx]; rfl)))
        rw [← Nat.add_assoc] at k1
        have hgd : l.getD (k - 1) default = x := by rw [hp, Nat.add_sub_cancel, List.getD_eq_getElem?_getD, List.getElem?_eq_getElem hpl, hx]; rfl
        have HCUT : Hd (cutOk l k = !verIs (l.drop k) x.ver) := hd (by unfold cutOk; rw [hgd])
        have HST : Hd ((if cutOk l k = true then k else splitV l ((k : Int) + 1)) = res) := hd (by rw [← splitV_step hkl]; exact HS.o)
        have hpi : (k : Int) - 1 = (p : Int) := by omega
        have hpn : (p : Int) < (n : Int) := by omega
        have hp0 : (0 : Int) ≤ (p : Int) := by omega
        have hck : ¬ c = k := by omega
        have hkc : (k : Int) ≤ (n : Int) := by omega
        have hdl : n - k = (l.drop k).length := by rw [List.length_drop, ← HN.o]
        have HDR := hd hdr
        have HDL := hd hdl
        obtain ⟨xv, hxv⟩ : ∃ q, x.ver = q := ⟨_, rfl⟩
        rw [hxv] at k1 HCUT
        have HCALL : Hd (Calls Try.prog 77 #[.slice (some ⟨g, o + k * 4, none⟩) (n - k) (c - k), .func (.func 78) #[] #[.pointer (some ⟨wr.heap.size, 0, none⟩)]] (wr.alloc (.cells #[.int .i64 xv] 2)) fun e w' => e = .returned (.bool (verIs (l.drop k) xv)) ∧ Below (wr.alloc (.cells #[.int .i64 xv] 2)).heap.size (wr.alloc (.cells #[.int .i64 xv] 2)) w') := hd (cfI_calls _ _ _ _ (l.drop k) wr.heap.size xv ((HDR.o.below HB.o).alloc _) HDL.o (by omega) ((Blk.new wr 2 _).at_ 0 rfl) (by simp))
        have HB1 := hd (HB.o.alloc HB.o.size (.cells #[.int .i64 xv] 2))
        obtain ⟨q, hq⟩ : ∃ q, verIs (l.drop k) xv = q := ⟨_, rfl⟩
        rw [hq] at HCALL HCUT
        clear hc hdr hx hgd hdl hxv hq hkl hpl
        subst hp
        cases q with
        | true =>
          have HST2 : Hd (splitV l (((p + 1 : Nat) : Int) + 1) = res) := hd (by have := HST.o; rw [HCUT.o] at this; simpa using this)
          go_wp2_with fail
          refine HCALL.o.mono ?_
          rintro e w1 ⟨rfl, hb1⟩
          have HB2 := hd (HB1.o.trans (hb1.mono HB1.o.size))
          clear hb1
          go_wp2
          go_roundw
          case rel => exact ⟨((p + 1 : Nat) : Int) + 1, by go_num, by omega, HST2, HB2⟩
          case measure => simp [intOf]; omega
        | false =>
          have HST2 : Hd (p + 1 = res) := hd (by have := HST.o; rw [HCUT.o] at this; simpa using this)
          go_wp2_with fail
          refine HCALL.o.mono ?_
          rintro e w1 ⟨rfl, hb1⟩
          have HB2 := hd (HB1.o.trans (hb1.mono HB1.o.size))
          clear hb1
          go_wp2
          go_ret
          exact ⟨ret_int (by have := HST2.o; omega), HB2.o⟩
      · have hge : ¬ v < (l.length : Int) := by rw [← HN.o]; exact hlt
        have HE : Hd (n = res) := hd (by rw [← HS.o, splitV_end hge (by omega)]; exact HN.o)
        go_wp2
        go_ret
        exact ⟨ret_int (by have := HE.o; omega), HB.o⟩

/-- Is a version among those from n on, below k? -/
def behB (l : List It) (n k : Nat) (v : Int) : Bool := verIs ((l.take k).drop n) v
theorem behB_snoc {l : List It} {n k : Nat} {v : Int} (h1 : n ≤ k) (h2 : k < l.length) {x : It} (hx : l[k] = x) : behB l n (k + 1) v = (behB l n k v || (x.ver == v)) := by
  unfold behB
  rw [List.take_succ_eq_append_getElem h2, hx, List.drop_append_of_le_length (by rw [List.length_take]; omega), verIs_snoc]
theorem behB_start (l : List It) (n : Nat) (v : Int) : behB l n n v = false := by
  unfold behB
  rw [List.drop_of_length_le (by rw [List.length_take]; omega)]
  rfl
theorem behB_full (l : List It) (n : Nat) (v : Int) : behB l n l.length v = verIs (l.drop n) v := by unfold behB; rw [List.take_length]

set_option maxRecDepth 100000 in
set_option maxHeartbeats 4000000 in
theorem rsplit_calls (w : World) (A : Option Addr) (n c : Nat) (l : List It) (most : Int) (hr : Rds w A n 4 (itsEnc l)) (hn : n = l.length) (hm : n ≤ 1000000) :
    Calls Try.prog 49 #[.slice A n c, .int .i64 most] w fun e w' => e = .returned (.int .i64 (splitP l most : Nat)) ∧ Below w.heap.size w w' := by
  have HR := hd hr
  have HN := hd hn
  obtain ⟨res, hres⟩ : ∃ r, splitP l most = r := ⟨_, rfl⟩
  have HP : Hd (splitV l (max most 1) = res) := hd hres
  rw [hres]
  clear hr hn hres
  go_enter Try.func49, Try.ntmps49
  go_wp2_with fail
  all_goals
    go_loopw [5, 6, 7] (fun s5 _ _ wr => ∃ v : Int, s5 = .int .i64 v ∧ 1 ≤ v ∧ Hd (splitV l v = res) ∧ (∃ q, wr = w.drewN q)) (fun s5 _ _ _ => n - (intOf s5).toNat)
    case atStart => exact ⟨max most 1, rfl, by omega, HP, ⟨0, rfl⟩⟩
    case round =>
      obtain ⟨v, rfl, hv1, HS, ⟨q0, rfl⟩⟩ := hrel
      by_cases hlt : v < n
      · obtain ⟨k, rfl⟩ : ∃ k : Nat, v = k := ⟨v.toNat, by omega⟩
        have hkn : k < n := by omega
        have hkl : k < l.length := by rw [← HN.o]; exact hkn
        obtain ⟨g, o, rfl, hg, hc⟩ := HR.o.at_ (by omega)
        obtain ⟨p, hp⟩ : ∃ p : Nat, k = p + 1 := ⟨k - 1, by omega⟩
        have hpl : p < l.length := by omega
        obtain ⟨x, hx⟩ : ∃ x, l[p]'hpl = x := ⟨_, rfl⟩
        have k1 : w.cell? ⟨g, o + (p * 4 + 1), none⟩ = some (.int .i64 x.ver) := hc _ _ ((flat_at itEnc 4 itEnc_len l p hpl 1 (by omega)).trans (by rw [hx]; rfl))
        rw [← Nat.add_assoc] at k1
        have hgd : l.getD (k - 1) default = x := by rw [hp, Nat.add_sub_cancel, List.getD_eq_getElem?_getD, List.getElem?_eq_getElem hpl, hx]; rfl
        have HCUT : Hd (cutOk l k = !verIs (l.drop k) x.ver) := hd (by unfold cutOk; rw [hgd])
        have HST : Hd ((if cutOk l k = true then k else splitV l ((k : Int) + 1)) = res) := hd (by rw [← splitV_step hkl]; exact HS.o)
        have hpi : (k : Int) - 1 = (p : Int) := by omega
        have hpn : (p : Int) < (n : Int) := by omega
        have hp0 : (0 : Int) ≤ (p : Int) := by omega
        have HCX := hd (fun (j : Nat) (hj : j < l.length) => (show w.cell? ⟨g, o + j * 4 + 1, none⟩ = some (.int .i64 (l[j]'hj).ver) by rw [Nat.add_assoc]; exact hc _ _ ((flat_at itEnc 4 itEnc_len l j hj 1 (by omega)).trans rfl)))
        obtain ⟨xv, hxv⟩ : ∃ q, x.ver = q := ⟨_, rfl⟩
        rw [hxv] at k1 HCUT
        have HB0 := hd (behB_start l k xv)
        clear hc hx hgd hxv hkl hpl HS
        have HKP := hd hp
        clear hp
        have hki : (0 : Int) ≤ (k : Int) := by omega
        go_wp2_with fail
        go_loopw [6, 7] (fun s6 s7 wx => ∃ (j : Nat) (bh : Bool), s7 = .int .i64 j ∧ s6 = .bool bh ∧ k ≤ j ∧ j ≤ n ∧ Hd (behB l k j xv = bh) ∧ (∃ q, wx = w.drewN q)) (fun _ s7 _ => n - (intOf s7).toNat)
        case atStart => exact ⟨k, false, rfl, rfl, Nat.le_refl _, by omega, HB0, ⟨q0, rfl⟩⟩
        case round =>
          obtain ⟨j, bh, rfl, rfl, hkj, hjn, HBH, ⟨q1, rfl⟩⟩ := hrel
          have hji : (0 : Int) ≤ (j : Int) := by omega
          by_cases hjl : j < n
          · have hjli : (j : Int) < (n : Int) := by omega
            have hjl2 : j < l.length := by rw [← HN.o]; exact hjl
            have y1 := HCX.o j hjl2
            obtain ⟨y, hy⟩ : ∃ y, l[j]'hjl2 = y := ⟨_, rfl⟩
            have HSN := hd (behB_snoc (v := xv) hkj hjl2 hy)
            rw [hy] at y1
            obtain ⟨yv, hyv⟩ : ∃ q, y.ver = q := ⟨_, rfl⟩
            rw [hyv] at y1 HSN
            obtain ⟨bq, hbq⟩ : ∃ q : Bool, (yv == xv) = q := ⟨_, rfl⟩
            rw [hbq, HBH.o] at HSN
            clear hjl2 hy hyv
            cases bh with
            | true =>
              have HSN2 : Hd (behB l k (j + 1) xv = true) := hd (by rw [HSN.o]; rfl)
              clear hbq
              go_wp2_with fail
              go_quiet (fail)
              go_wp2
              go_roundw
              case rel => exact ⟨j + 1, true, by go_num, rfl, by omega, by omega, HSN2, ⟨_, rfl⟩⟩
              case measure => simp [intOf]; omega
            | false =>
              have HSN2 : Hd (behB l k (j + 1) xv = bq) := hd (by rw [HSN.o]; rfl)
              go_wp2_with fail
              go_quiet (fail)
              go_wp2
              go_roundw
              case rel => exact ⟨j + 1, bq, by go_num, rfl, by omega, by omega, HSN2, ⟨_, rfl⟩⟩
              case measure => simp [intOf]; omega
          · obtain rfl : j = n := by omega
            have HBF : Hd (cutOk l k = !bh) := hd (by rw [HCUT.o, ← behB_full l k xv, ← HN.o, HBH.o])
            cases bh with
            | true =>
              have HST2 : Hd (splitV l ((k : Int) + 1) = res) := hd (by have := HST.o; rw [HBF.o] at this; simpa using this)
              go_wp2
              go_roundw
              case rel => exact ⟨(k : Int) + 1, by go_num, by omega, HST2, ⟨_, rfl⟩⟩
              case measure => simp [intOf]; omega
            | false =>
              have HST2 : Hd (k = res) := hd (by have := HST.o; rw [HBF.o] at this; simpa using this)
              go_wp2
              go_ret
              exact ⟨ret_int (by have := HST2.o; omega), bdrewN (Below.refl _ _) _⟩
      · have hge : ¬ v < (l.length : Int) := by rw [← HN.o]; exact hlt
        have HE : Hd (n = res) := hd (by rw [← HS.o, splitV_end hge (by omega)]; exact HN.o)
        go_wp2
        go_ret
        exact ⟨ret_int (by have := HE.o; omega), bdrewN (Below.refl _ _) _⟩

end Go.Proofs.Ytbeckfnhgeclnaa
