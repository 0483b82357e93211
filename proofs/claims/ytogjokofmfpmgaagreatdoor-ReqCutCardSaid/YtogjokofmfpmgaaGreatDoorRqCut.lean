/-
  henlaw12.ReqCut.
-/
import Derived.Test.YtogjokofmfpmgaaGreatDoorGAQ
import Derived.Test.YtogjokofmfpmgaaGreatDoorGAR
import Derived.Test.YtogjokofmfpmgaaGreatDoorGAK
import Derived.Deep.CutRange
import Derived.IntWalk
set_option linter.unusedVariables false
set_option linter.unusedSimpArgs false
namespace Go.Proofs.YtogjokofmfpmgaaGreatDoor
open Go.RowKit

theorem and65535f (x : Int) : 0 ≤ bits .and .i64 x 65535 ∧ bits .and .i64 x 65535 ≤ 65535 := by
  have key : (BitVec.ofInt 64 x &&& BitVec.ofInt 64 65535).toNat ≤ 65535 := by
    rw [BitVec.toNat_and]
    exact Nat.le_trans Nat.and_le_right (by decide)
  show 0 ≤ IntKind.i64.wrap ((BitVec.ofInt 64 x &&& BitVec.ofInt 64 65535).toNat : Nat) ∧ IntKind.i64.wrap ((BitVec.ofInt 64 x &&& BitVec.ofInt 64 65535).toNat : Nat) ≤ 65535
  rw [IntKind.wrap_i64]
  omega
/-- What Decode hands back where the bytes ask nothing. -/
structure DecNo (w : World) (x : Int) (e : Ending) (w' : World) : Prop where
  o : ∃ (A : Option Addr) (c : Nat), e = .returned (.tuple #[.agg #[.int .i64 0, .string ⟨#[]⟩, .string ⟨#[]⟩, .string ⟨#[]⟩, .string ⟨#[]⟩, .int .i64 0, .int .i64 0, .slice A 0 c, .int .i64 0, .int .i64 0, .int .i64 0], .int .i64 x])
  b : Below w.heap.size w w'
theorem dec_bad {w w' : World} {k x : Int} {l : List UInt8} {e : Ending} (h : DecR w k l e w') (hx : (decQ k l).2 = x) (h0 : x ≠ 0) : DecNo w x e w' := by
  obtain ⟨A, c, he, _, hb⟩ := h.o
  refine ⟨⟨A, c, ?_⟩, hb⟩
  rw [dec_no (by rw [hx]; exact h0), hx] at he
  exact he

theorem balloc9 {a w : World} (h : Below a.heap.size a w) (o : Obj) : Below a.heap.size a (w.alloc o) := h.alloc h.size o
theorem bnew9 {a W x : World} (zb : Below W.heap.size W x) (h : Below a.heap.size a W) : Below a.heap.size a x := h.trans (zb.mono h.size)
theorem rnew9 {a W x : World} {e : TypeId} {size n c : Nat} {A : Option Addr} {xs : List Value} (z : Row x (From W.heap.size) e size A n c xs) (h : Below a.heap.size a W) : Row x (From a.heap.size) e size A n c xs := z.mono (fun q hq => Nat.le_trans h.size hq)
theorem bchg9 {a W x : World} (zc : Chg (From a.heap.size) W x) (h : Below a.heap.size a W) : Below a.heap.size a x := h.trans (zc.below (fun _ k => k) h.size)
theorem rchg9 {a W x : World} {e : TypeId} {size n c : Nat} {A : Option Addr} {xs : List Value} (z : Row x (Plus (From a.heap.size) W.heap.size) e size A n c xs) (h : Below a.heap.size a W) : Row x (From a.heap.size) e size A n c xs := z.mono (fun q hq => hq.elim id (fun hq => Nat.le_trans h.size hq))
theorem rdrw9 {w : World} {A : Option Addr} {n size : Nat} {xs : List Value} (h : Rds w A n size xs) : Rds w.drew A n size xs := ⟨h.len, h.at_⟩
theorem kchg9 {t0 : TypeId} {W x : World} {e : TypeId} {size n c : Nat} {E : Option Addr} {xs : List Value} (ht : e ≠ t0) (zc : Chg (Of E) W x) (hr : Row W (Of E) e size E n c xs) (g : Nat) (cs : Array Value) (hB : Blk W g t0 cs) : Blk x g t0 cs :=
  hB.chg zc (fun hk => by
    cases E with
    | none => exact Of.none hk
    | some a => exact hr.ne_blk hB ht a rfl hk.some_.symm)
theorem b11_9 {a w : World} {B g : Nat} {v0 v1 v2 v3 v4 v5 v6 v7 v8 v9 v10 : Value} (h : Below B a w) (hg : B ≤ g) : Below B a (((((((((((w.setCell ⟨g, 0, none⟩ v0).setCell ⟨g, 1, none⟩ v1).setCell ⟨g, 2, none⟩ v2).setCell ⟨g, 3, none⟩ v3).setCell ⟨g, 4, none⟩ v4).setCell ⟨g, 5, none⟩ v5).setCell ⟨g, 6, none⟩ v6).setCell ⟨g, 7, none⟩ v7).setCell ⟨g, 8, none⟩ v8).setCell ⟨g, 9, none⟩ v9).setCell ⟨g, 10, none⟩ v10) :=
  (((((((((((h.setCell (p := ⟨g, 0, none⟩) hg v0).setCell (p := ⟨g, 1, none⟩) hg v1).setCell (p := ⟨g, 2, none⟩) hg v2).setCell (p := ⟨g, 3, none⟩) hg v3).setCell (p := ⟨g, 4, none⟩) hg v4).setCell (p := ⟨g, 5, none⟩) hg v5).setCell (p := ⟨g, 6, none⟩) hg v6).setCell (p := ⟨g, 7, none⟩) hg v7).setCell (p := ⟨g, 8, none⟩) hg v8).setCell (p := ⟨g, 9, none⟩) hg v9).setCell (p := ⟨g, 10, none⟩) hg v10)
theorem absorb9 {P Q : Prop} (h : P) (k : P → Q) : Q := k h
theorem bdrw9 {B : Nat} {a w : World} (h : Below B a w) : Below B a w.drew := ⟨h.os, h.tape, h.output, h.size, h.block⟩
theorem bel11' {a w : World} {g : Nat} {v0 v1 v2 v3 v4 v5 v6 v7 v8 v9 v10 : Value} (h : Below g a w) : Below g a (((((((((((w.setCell ⟨g, 0, none⟩ v0).setCell ⟨g, 1, none⟩ v1).setCell ⟨g, 2, none⟩ v2).setCell ⟨g, 3, none⟩ v3).setCell ⟨g, 4, none⟩ v4).setCell ⟨g, 5, none⟩ v5).setCell ⟨g, 6, none⟩ v6).setCell ⟨g, 7, none⟩ v7).setCell ⟨g, 8, none⟩ v8).setCell ⟨g, 9, none⟩ v9).setCell ⟨g, 10, none⟩ v10) := bel11 h
set_option maxRecDepth 100000 in
set_option maxHeartbeats 4000000 in
theorem rcut_law (q : Rq) (A : Option Addr) (c : Nat) (at_ more : Int) (w : World) (ht : Tbs w) (hq : RqOk w q A) (hc : q.ops.length ≤ c) (ha : -9223372036854775808 ≤ at_ ∧ at_ ≤ 9223372036854775807) (hm : 0 ≤ more ∧ more ≤ 255) :
    Calls Tryz.prog 5 #[reqV q A c, .int .i64 at_, .int .u8 more] w fun e w' => e = .returned (.bool true) ∧ Below w.heap.size w w' := by
  obtain ⟨k, tn, col, uid, card, ck, cv, ops, tok, most, ticks⟩ := q
  obtain ⟨mc, hmc⟩ : ∃ mc : UInt8, more = (mc.toNat : Int) := ⟨UInt8.ofNat more.toNat, by rw [UInt8.toNat_ofNat']; omega⟩
  subst hmc
  have C1 := fun W (h : Below w.heap.size w W) => first_calls W (ht.below h)
  have C2 := fun W (h : Below w.heap.size w W) => light_calls W ⟨k, tn, col, uid, card, ck, cv, ops, tok, most, ticks⟩ A c (hq.below h)
  obtain ⟨LB, hLB⟩ : ∃ LB, lightQ ⟨k, tn, col, uid, card, ck, cv, ops, tok, most, ticks⟩ = LB := ⟨_, rfl⟩
  simp only [hLB] at C2
  have HNM := hq.num
  have C3 := fun (hl : LB = true) W (h : Below w.heap.size w W) => enc_calls ⟨k, tn, col, uid, card, ck, cv, ops, tok, most, ticks⟩ A c W (ht.below h) (hq.below h).rds (light_s (hLB.trans hl)) HNM
  have HDEC := hd (fun W B m c' (l : List UInt8) (h1 : m = l.length) (h2 : Rds W B m 1 (u8E l)) (h3 : m ≤ 1000000) (h : Below w.heap.size w W) => dec_calls k W B m c' l h1 h2 h3 (ht.below h))
  have HCUT := hd (fun (h : chk ⟨k, tn, col, uid, card, ck, cv, ops, tok, most, ticks⟩ = 0) (n : Nat) (hn : n < (encB ⟨k, tn, col, uid, card, ck, cv, ops, tok, most, ticks⟩).length) => dec_cut h HNM hn)
  have HMORE := hd (fun (h : chk ⟨k, tn, col, uid, card, ck, cv, ops, tok, most, ticks⟩ = 0) => dec_more h HNM mc)
  have HNIL := hd (fun (h : chk ⟨k, tn, col, uid, card, ck, cv, ops, tok, most, ticks⟩ = 0) => enc_nil (q := ⟨k, tn, col, uid, card, ck, cv, ops, tok, most, ticks⟩) h)
  have HLEN := hd (fun (h : chk ⟨k, tn, col, uid, card, ck, cv, ops, tok, most, ticks⟩ = 0) => enc_len h HNM)
  obtain ⟨KK, hK⟩ : ∃ KK, chk ⟨k, tn, col, uid, card, ck, cv, ops, tok, most, ticks⟩ = KK := ⟨_, rfl⟩
  obtain ⟨EB, hEB⟩ : ∃ EB, encB ⟨k, tn, col, uid, card, ck, cv, ops, tok, most, ticks⟩ = EB := ⟨_, rfl⟩
  have HENC := hd (fun W e w' (h : EncR W ⟨k, tn, col, uid, card, ck, cv, ops, tok, most, ticks⟩ e w') => show (KK = 0 → ∃ (A : Option Addr) (m c : Nat), e = .returned (.tuple #[.slice A m c, .int .i64 0]) ∧ m = EB.length ∧ Row w' (From W.heap.size) 5 1 A m c (u8E EB) ∧ Below W.heap.size W w') ∧ (KK ≠ 0 → e = .returned (.tuple #[.slice none 0 0, .int .i64 KK]) ∧ Below W.heap.size W w') from by
    rw [← hK, ← hEB]; exact ⟨h.yes, h.no⟩)
  rw [hK] at HCUT HMORE HNIL HLEN
  rw [hEB] at HCUT HMORE HNIL HLEN
  simp only at HCUT HMORE HNIL HLEN
  obtain ⟨x, hx⟩ : ∃ x, bits .and .i64 at_ 65535 = x := ⟨_, rfl⟩
  have hx0 : 0 ≤ x ∧ x ≤ 65535 := by rw [← hx]; exact and65535f at_
  have hx1 := hx0.1
  have hx2 := hx0.2
  have HXX := hd hx
  obtain ⟨i0, hi, hz0q, hz1, hz2⟩ := info_parts pkInfo
  unfold reqV reqE at *
  simp only at C1 C2 C3 HENC ⊢
  obtain ⟨n, hn⟩ : ∃ n, ops.length = n := ⟨_, rfl⟩
  have HN := hd hn
  rw [hn] at C2 C3 ⊢
  replace C1 := hd C1
  replace C2 := hd C2
  replace C3 := hd C3
  clear ht hq hc ha hm hLB hK hx0 hx hn hEB HNM
  go_enter Tryz.func5, Tryz.ntmps5
  obtain ⟨X, hX⟩ : ∃ X, X = w.alloc (.cells #[.int .i64 k, .string (bs tn), .string (bs col), .string (bs uid), .string (bs card), .int .i64 ck, .int .i64 cv, .slice A n c, .int .i64 tok, .int .i64 most, .int .i64 ticks] 26) := ⟨_, rfl⟩
  have KN1 : Blk X w.heap.size 26 #[.int .i64 k, .string (bs tn), .string (bs col), .string (bs uid), .string (bs card), .int .i64 ck, .int .i64 cv, .slice A n c, .int .i64 tok, .int .i64 most, .int .i64 ticks] := by rw [hX]; exact Blk.new _ _ _
  replace KN1 := hd KN1
  have HB2 := (Below.refl w.heap.size w).alloc (Below.refl w.heap.size w).size (.cells #[.int .i64 k, .string (bs tn), .string (bs col), .string (bs uid), .string (bs card), .int .i64 ck, .int .i64 cv, .slice A n c, .int .i64 tok, .int .i64 most, .int .i64 ticks] 26)
  rw [← hX] at HB2
  replace HB2 := hd HB2
  have HW_X := hd hX
  clear hX
  go_upto_region 1 with (fail)
  rw [← HW_X.o]
  have x0 := KN1.o.at_ 0 rfl
  have x1 := KN1.o.at_ 1 rfl
  have x2 := KN1.o.at_ 2 rfl
  have x3 := KN1.o.at_ 3 rfl
  have x4 := KN1.o.at_ 4 rfl
  have x5 := KN1.o.at_ 5 rfl
  have x6 := KN1.o.at_ 6 rfl
  have x7 := KN1.o.at_ 7 rfl
  have x8 := KN1.o.at_ 8 rfl
  have x9 := KN1.o.at_ 9 rfl
  have x10 := KN1.o.at_ 10 rfl
  have xl := KN1.o.lt
  go_wp2_with fail
  refine (C1.o _ HB2.o).mono ?_
  rintro e w1 ⟨rfl, hb1⟩
  clear x0 x1 x2 x3 x4 x5 x6 x7 x8 x9 x10 xl
  have Kx3 := hd (KN1.o.below hb1 KN1.o.lt)
  have HB4 := hd (HB2.o.trans (hb1.mono HB2.o.size))
  clear hb1
  have x0 := Kx3.o.at_ 0 rfl
  have x1 := Kx3.o.at_ 1 rfl
  have x2 := Kx3.o.at_ 2 rfl
  have x3 := Kx3.o.at_ 3 rfl
  have x4 := Kx3.o.at_ 4 rfl
  have x5 := Kx3.o.at_ 5 rfl
  have x6 := Kx3.o.at_ 6 rfl
  have x7 := Kx3.o.at_ 7 rfl
  have x8 := Kx3.o.at_ 8 rfl
  have x9 := Kx3.o.at_ 9 rfl
  have x10 := Kx3.o.at_ 10 rfl
  have xl := Kx3.o.lt
  go_wp2_with fail
  refine (C2.o _ HB4.o).mono ?_
  rintro e w2 ⟨rfl, hb2⟩
  clear x0 x1 x2 x3 x4 x5 x6 x7 x8 x9 x10 xl
  have Kx5 := hd (Kx3.o.below hb2 Kx3.o.lt)
  have HB6 := hd (HB4.o.trans (hb2.mono HB4.o.size))
  clear hb2
  have x0 := Kx5.o.at_ 0 rfl
  have x1 := Kx5.o.at_ 1 rfl
  have x2 := Kx5.o.at_ 2 rfl
  have x3 := Kx5.o.at_ 3 rfl
  have x4 := Kx5.o.at_ 4 rfl
  have x5 := Kx5.o.at_ 5 rfl
  have x6 := Kx5.o.at_ 6 rfl
  have x7 := Kx5.o.at_ 7 rfl
  have x8 := Kx5.o.at_ 8 rfl
  have x9 := Kx5.o.at_ 9 rfl
  have x10 := Kx5.o.at_ 10 rfl
  have xl := Kx5.o.lt
  cases LB with
  | false =>
    go_wp2_with fail
    refine (C1.o _ HB6.o).mono ?_
    rintro e w9 ⟨rfl, hb9⟩
    clear x0 x1 x2 x3 x4 x5 x6 x7 x8 x9 x10 xl
    have Kx7 := hd (Kx5.o.below hb9 Kx5.o.lt)
    have HB8 := hd (HB6.o.trans (hb9.mono HB6.o.size))
    clear hb9
    have x0 := Kx7.o.at_ 0 rfl
    have x1 := Kx7.o.at_ 1 rfl
    have x2 := Kx7.o.at_ 2 rfl
    have x3 := Kx7.o.at_ 3 rfl
    have x4 := Kx7.o.at_ 4 rfl
    have x5 := Kx7.o.at_ 5 rfl
    have x6 := Kx7.o.at_ 6 rfl
    have x7 := Kx7.o.at_ 7 rfl
    have x8 := Kx7.o.at_ 8 rfl
    have x9 := Kx7.o.at_ 9 rfl
    have x10 := Kx7.o.at_ 10 rfl
    have xl := Kx7.o.lt
    go_wp2
    go_ret
    exact ⟨rfl, HB8.o⟩
  | true =>
    go_wp2_with fail
    refine (C3.o (by first | rfl | trivial) _ HB6.o).mono ?_
    intro e w3 hE
    obtain ⟨hy, hno⟩ := HENC.o _ _ _ hE
    clear hE
    by_cases hk0 : KK = 0
    case neg =>
      obtain ⟨rfl, hb3⟩ := hno hk0
      have hkb : (KK != 0) = true := by simpa using hk0
      clear hy hno hk0
      clear x0 x1 x2 x3 x4 x5 x6 x7 x8 x9 x10 xl
      have Kx7 := hd (Kx5.o.below hb3 Kx5.o.lt)
      have HB8 := hd (HB6.o.trans (hb3.mono HB6.o.size))
      clear hb3
      have x0 := Kx7.o.at_ 0 rfl
      have x1 := Kx7.o.at_ 1 rfl
      have x2 := Kx7.o.at_ 2 rfl
      have x3 := Kx7.o.at_ 3 rfl
      have x4 := Kx7.o.at_ 4 rfl
      have x5 := Kx7.o.at_ 5 rfl
      have x6 := Kx7.o.at_ 6 rfl
      have x7 := Kx7.o.at_ 7 rfl
      have x8 := Kx7.o.at_ 8 rfl
      have x9 := Kx7.o.at_ 9 rfl
      have x10 := Kx7.o.at_ 10 rfl
      have xl := Kx7.o.lt
      go_wp2
      go_ret
      exact ⟨rfl, HB8.o⟩
    case pos =>
    obtain ⟨A1, m1, c1, rfl, hm1, hr1, hb3⟩ := hy hk0
    have hw0 := hb3.size
    have HW2 := hd hw0
    clear hy hno hw0
    clear x0 x1 x2 x3 x4 x5 x6 x7 x8 x9 x10 xl
    have Kx7 := hd (Kx5.o.below hb3 Kx5.o.lt)
    have HB8 := hd (HB6.o.trans (hb3.mono HB6.o.size))
    have HR1 := hd hr1
    have HM1 := hd hm1
    have HL1 := HLEN.o hk0
    have HCT := hd (fun (n : Nat) (hn : n < EB.length) => HCUT.o hk0 n hn)
    have HMR := hd (HMORE.o hk0)
    have HNL := hd (HNIL.o hk0)
    clear hb3 hr1 hm1
    subst hk0
    have x0 := Kx7.o.at_ 0 rfl
    have x1 := Kx7.o.at_ 1 rfl
    have x2 := Kx7.o.at_ 2 rfl
    have x3 := Kx7.o.at_ 3 rfl
    have x4 := Kx7.o.at_ 4 rfl
    have x5 := Kx7.o.at_ 5 rfl
    have x6 := Kx7.o.at_ 6 rfl
    have x7 := Kx7.o.at_ 7 rfl
    have x8 := Kx7.o.at_ 8 rfl
    have x9 := Kx7.o.at_ 9 rfl
    have x10 := Kx7.o.at_ 10 rfl
    have xl := Kx7.o.lt
    by_cases hm0 : m1 = 0
    case pos =>
      have hkk := HNL.o (List.eq_nil_of_length_eq_zero (by rw [← HM1.o]; exact hm0))
      subst hm0
      rcases hkk with hkk | hkk
      ·
        have e1 : (k == 10) = true := by simpa using hkk
        clear hkk
        go_wp2
        go_ret
        exact ⟨rfl, HB8.o⟩
      ·
        have e1 : (k == 10) = false := by simp; omega
        have e2 : (k == 11) = true := by simpa using hkk
        clear hkk
        go_wp2
        go_ret
        exact ⟨rfl, HB8.o⟩
    case neg =>
    have hmp : 0 < m1 := by omega
    have hm1i : (1 : Int) ≤ (m1 : Int) := by omega
    have hmb : ((m1 : Int) == 0) = false := by simp; omega
    have hml : m1 ≤ 12000 := by rw [HM1.o]; exact HL1
    obtain ⟨r, hr⟩ : ∃ r : Nat, x % (m1 : Int) = (r : Int) := ⟨(x % (m1 : Int)).toNat, by have := Int.emod_nonneg x (by omega : (m1 : Int) ≠ 0); omega⟩
    have hrm : r < m1 := by have := Int.emod_lt_of_pos x (by omega : (0 : Int) < (m1 : Int)); omega
    have hr2 : (r : Int) ≤ (m1 : Int) := by omega
    obtain ⟨g1, hA1, _, hg1, hnc1, hcm1, hcl1, _⟩ := HR1.o.at_ hmp
    subst hA1
    have hrc : r ≤ c1 := by omega
    have hrci : (r : Int) ≤ (c1 : Int) := by omega
    clear x0 x1 x2 x3 x4 x5 x6 x7 x8 x9 x10 xl
    have x0 := Kx7.o.at_ 0 rfl
    have xl := Kx7.o.lt
    have HRT := hd (show ∀ W, Below w3.heap.size w3 W → Rds W (some ⟨g1, 0, none⟩) r 1 (u8E (EB.take r)) from fun W hW => by
      refine ⟨by rw [u8E_len, List.length_take, ← HM1.o]; omega, fun _ => ⟨g1, 0, rfl, Nat.lt_of_lt_of_le hg1 hW.size, fun j u hu => ?_⟩⟩
      have hj : j < (EB.take r).length := by
        have := (List.getElem?_eq_some_iff.1 hu).1
        rwa [u8E_len] at this
      rw [List.length_take] at hj
      have hu2 : (u8E EB)[j]? = some u := by
        rw [← hu]
        unfold u8E
        rw [List.getElem?_map, List.getElem?_map, List.getElem?_take, if_pos (by omega)]
      rw [Nat.zero_add]
      exact (hW.cell (p := ⟨g1, j, none⟩) hg1).trans (hcl1 j u hu2))
    have HBA := hd (show Below w.heap.size w w3 from HB8.o)
    have HLT := hd (show r = (EB.take r).length by rw [List.length_take, ← HM1.o]; omega)
    have HTD : (decQ k (EB.take r)).2 = 1 := HCT.o r (by rw [← HM1.o]; exact hrm)
    have PB := HDEC.o w3.drew (some ⟨g1, 0, none⟩) r c1 (EB.take r) HLT.o (HRT.o w3.drew (bdrewN (Below.refl _ _) 1)) (by omega) (bdrewN HBA.o 1)
    have PA := HDEC.o (w3.alloc (.cells #[.int .i64 0, .string ⟨#[]⟩, .string ⟨#[]⟩, .string ⟨#[]⟩, .string ⟨#[]⟩, .int .i64 0, .int .i64 0, .slice none 0 0, .int .i64 0, .int .i64 0, .int .i64 0] 26)).drew (some ⟨g1, 0, none⟩) r c1 (EB.take r) HLT.o (HRT.o _ (bdrewN ((Below.refl _ _).alloc (Nat.le_refl _) _) 1)) (by omega) (bdrewN (HBA.o.alloc HBA.o.size _) 1)
    have HTD2 := hd HTD
    replace PA := hd PA
    replace PB := hd PB
    clear HTD hcl1 hg1
    have hxx := HXX.o
    have hrt : Int.tmod x (m1 : Int) = (r : Int) := by rw [Int.tmod_eq_emod_of_nonneg hx1]; exact hr
    have hrw : IntKind.i64.wrap (r : Int) = (r : Int) := IntWalk.i64_in _ (by omega)
    go_upto_region 8 with (fail)
    go_cut [9, 10] from 43 to 55 (fun _ s10 wx => s10 = .int .i64 1 ∧ Hd (Below w3.heap.size w3 wx))
    case first =>
      have kne := World.new_ne w3 ⟨w.heap.size, 0, none⟩ x0
      go_region_held3 (fun w' => w'.cell? ⟨w.heap.size, 0, none⟩ = some (.int .i64 k)) (first | go_keep | (with_reducible exact k0)) (first
        | (go_at_call 17; (with_reducible refine PB.o.mono ?_); intro e w4 hD; obtain ⟨⟨Ad, cd, rfl⟩, hb4⟩ := dec_bad hD HTD2.o (by decide); have k0 := (hb4.cell (p := ⟨w.heap.size, 0, none⟩) xl).trans x0; have HF := hd (show Below w3.heap.size w3 w4 from undr hb4); clear hD hb4)
        | (go_at_call 17; (with_reducible refine PA.o.mono ?_); intro e w4 hD; obtain ⟨⟨Ad, cd, rfl⟩, hb4⟩ := dec_bad hD HTD2.o (by decide); have k0 := ((undr hb4).cell (p := ⟨w.heap.size, 0, none⟩) (by simp; omega)).trans ((((Below.refl w3.heap.size w3).alloc (Nat.le_refl _) (.cells #[.int .i64 0, .string ⟨#[]⟩, .string ⟨#[]⟩, .string ⟨#[]⟩, .string ⟨#[]⟩, .int .i64 0, .int .i64 0, .slice none 0 0, .int .i64 0, .int .i64 0, .int .i64 0] 26)).cell (p := ⟨w.heap.size, 0, none⟩) xl).trans x0); have hzb := Blk.below (Blk.new w3 26 #[.int .i64 0, .string ⟨#[]⟩, .string ⟨#[]⟩, .string ⟨#[]⟩, .string ⟨#[]⟩, .int .i64 0, .int .i64 0, .slice none 0 0, .int .i64 0, .int .i64 0, .int .i64 0]) (undr hb4) (by simp); have g0_ := hzb.at_ 0 rfl; have f0_ := hzb.frozen 0; have g1_ := hzb.at_ 1 rfl; have f1_ := hzb.frozen 1; have g2_ := hzb.at_ 2 rfl; have f2_ := hzb.frozen 2; have g3_ := hzb.at_ 3 rfl; have f3_ := hzb.frozen 3; have g4_ := hzb.at_ 4 rfl; have f4_ := hzb.frozen 4; have g5_ := hzb.at_ 5 rfl; have f5_ := hzb.frozen 5; have g6_ := hzb.at_ 6 rfl; have f6_ := hzb.frozen 6; have g7_ := hzb.at_ 7 rfl; have f7_ := hzb.frozen 7; have g8_ := hzb.at_ 8 rfl; have f8_ := hzb.frozen 8; have g9_ := hzb.at_ 9 rfl; have f9_ := hzb.frozen 9; have g10_ := hzb.at_ 10 rfl; have f10_ := hzb.frozen 10; have HF := hd (show Below w3.heap.size w3 w4 from ((Below.refl _ w3).alloc (Nat.le_refl _) _).trans ((undr hb4).mono (by simp))); clear hD hb4 hzb))
      all_goals
        go_wp2_with fail
        go_meet
        refine ⟨rfl, hd ?_⟩
        first
          | (with_reducible exact HF.o.alloc HF.o.size _)
          | (with_reducible exact bel11' HF.o)
    case rest =>
      obtain ⟨rfl, HF⟩ := hcut
      have HX9 := hd (Kx7.o.below HF.o xl)
      have HB9 := hd (HBA.o.trans (HF.o.mono HBA.o.size))
      have x0 := HX9.o.at_ 0 rfl
      have xl := HX9.o.lt
      have HRD := hd (HR1.o.rds.below HF.o)
      obtain ⟨_, _, hA1, hgl, hcl⟩ := HRD.o.at_ hmp
      injection hA1 with hA1
      injection hA1 with e1 e2
      subst e1 e2
      have HCL := hd (fun W (hW : Below wc.heap.size wc W) => show ∀ j u, (u8E EB)[j]? = some u → W.cell? ((⟨g1, 0, none⟩ : Addr).add j) = some u from fun j u hu => by
        rw [Addr.add_lit]
        exact (hW.cell (p := ⟨g1, 0 + j, none⟩) hgl).trans (hcl j u hu))
      have hlE : (u8E EB).length = m1 * 1 := by rw [u8E_len, ← HM1.o, Nat.mul_one]
      have HLE := hd hlE
      have HMX : Hd ((decQ k (EB ++ [mc])).2 = 1) := HMR
      have HLM := hd (show m1 + 1 = (EB ++ [mc]).length by rw [List.length_append, ← HM1.o]; rfl)
      have hmm : 0 + m1 ≤ maxLen := by unfold maxLen; omega
      have hby : (0 + m1) * 1 ≤ 140737488355328 := by omega
      have hmm2 : m1 + 1 ≤ maxLen := by unfold maxLen; omega
      have hby2 : (m1 + 1) * 1 ≤ 140737488355328 := by omega
      have HU := hd (u8E_one EB)
      have HE1 := hd (show u8E (EB ++ [mc]) = u8E EB ++ [.int .u8 mc.toNat] by rw [u8E_app]; rfl)
      have hml2 : m1 + 1 ≤ 1000000 := by omega
      have HBR := hd (Below.refl wc.heap.size wc)
      have HDT := hd (fun W B d (hr : Rds W B (m1 + 1) 1 (u8E EB ++ [.int .u8 mc.toNat])) (h : Below wc.heap.size wc W) => HDEC.o W B (m1 + 1) d (EB ++ [mc]) HLM.o (by rw [HE1.o]; exact hr) hml2 (HB9.o.trans (h.mono HB9.o.size)))
      have kne := World.new_ne wc ⟨w.heap.size, 0, none⟩ x0
      have KP := hd (fun W (h : Below wc.heap.size wc W) => show W.cell? ⟨w.heap.size, 0, none⟩ = some (.int .i64 k) from (h.cell (p := ⟨w.heap.size, 0, none⟩) xl).trans x0)
      have kne1 : wc.heap.size + 1 ≠ w.heap.size := by omega
      have kne2 : wc.heap.size + 1 + 1 ≠ w.heap.size := by omega
      have hz0 : 0 + m1 = m1 := Nat.zero_add m1
      clear hlE hcl hrt hrw hr hrm hr2 hrc hrci hxx HMR
      have tok1 : True := trivial
      go_upto_region 9 with (fail)
      go_cut [11, 12] from 56 to 67 (fun _ s12 wx => s12 = .int .i64 1 ∧ Hd (Below wc.heap.size wc wx))
      case first =>
        go_region_held3 (fun w' => w'.cell? ⟨w.heap.size, 0, none⟩ = some (.int .i64 k)) (first | (with_reducible exact k0) | (refine KP.o _ ?_; with_reducible (repeat (first | exact HBR.o | exact HBX3.o | exact HBX2.o | exact HBX1.o | refine balloc9 ?_ _ | refine bdrw9 ?_)); done) | go_keep) (first
          | ((have _t := tok1
              refine step_append_new (by rfl) _ _ 27 (by rfl) 5 i0 (.int .u8 0) 1 1 Tryz.underlying27 hi hz0q hz1 hz2 rfl _ 0 0 [] (by rfl) rfl (fun h => by cases h) ⟨g1, 0, none⟩ m1 c1 (u8E EB) (by rfl) HLE.o hmp (by omega) hmm hby (fun b hb j u hu => by simp at hu) ?_ ?_
              · (refine HCL.o _ ?_
                 with_reducible (repeat (first | exact HBR.o | refine balloc9 ?_ _ | refine bdrw9 ?_)))
              intro E1 d1 x1 z1 zb1
              have HBX1 : Hd (Below wc.heap.size wc x1) := hd (bnew9 zb1 (by with_reducible (repeat (first | exact HBR.o | refine balloc9 ?_ _ | refine bdrw9 ?_))))
              rw [hz0, List.nil_append] at z1
              have Z1 : Hd (Row x1 (From wc.heap.size) 5 1 E1 m1 d1 (u8E EB)) := hd (rnew9 z1 (by with_reducible (repeat (first | exact HBR.o | refine balloc9 ?_ _ | refine bdrw9 ?_))))
              have ZO := hd Z1.o.own_
              have KB := hd (fun g t cs (hB : Blk _ g t cs) => hB.below zb1 hB.lt)
              have k0 := (HBX1.o.cell (p := ⟨w.heap.size, 0, none⟩) xl).trans x0
              have kn1 : x1.heap.size ≠ w.heap.size := World.new_ne x1 ⟨w.heap.size, 0, none⟩ k0
              have kn1b : x1.heap.size + 1 ≠ w.heap.size := by have := HBX1.o.size; omega
              clear _t tok1 z1 zb1
              simp only [Nat.zero_add]))
          | ((refine step_append_any (by rfl) _ _ 27 (by rfl) (Of E1) 5 i0 (.int .u8 0) 1 1 Tryz.underlying27 hi hz0q hz1 hz2 rfl E1 m1 d1 (u8E EB) (by rfl) _ 1 1 [.int .u8 mc.toNat] (by rfl) rfl (by simp [Value.oneCell']) (by omega) hmm2 hby2 ?_ ?_ ?_
              · (with_reducible (repeat (first | exact ZO.o | refine Row.alloc ?_ _ | refine Row.drew ?_)))
              · (refine cells_at8 (t := 5) (cs := #[.int .u8 mc.toNat]) ?_ rfl
                 repeat (first | (with_reducible refine Blk.new_ _ _ ?_ _ _; simp; done) | with_reducible refine Blk.alloc ?_ _ | with_reducible refine Blk.drew ?_ | with_reducible refine KB.o _ _ _ ?_))
              intro E2 d2 x2 z2 zc2
              have HBX2 : Hd (Below wc.heap.size wc x2) := hd (bchg9 (zc2.mono (fun q hq => Z1.o.of_sub q hq)) (by with_reducible (repeat (first | exact HBX1.o | refine balloc9 ?_ _ | refine bdrw9 ?_))))
              have Z2 : Hd (Row x2 (From wc.heap.size) 5 1 E2 (m1 + 1) d2 (u8E EB ++ [.int .u8 mc.toNat])) := hd (rchg9 (z2.mono (fun q hq => hq.imp (Z1.o.of_sub q) id)) (by with_reducible (repeat (first | exact HBX1.o | refine balloc9 ?_ _ | refine bdrw9 ?_))))
              clear k0
              have k0 := (HBX2.o.cell (p := ⟨w.heap.size, 0, none⟩) xl).trans x0
              have KB2 := hd (kchg9 (t0 := 26) (e := 5) (size := 1) (n := m1) (c := d1) (xs := u8E EB) (by decide) zc2 (by with_reducible (repeat (first | exact ZO.o | refine Row.alloc ?_ _ | refine Row.drew ?_))))
              have kn2 : x2.heap.size ≠ w.heap.size := World.new_ne x2 ⟨w.heap.size, 0, none⟩ k0
              clear z2 zc2))
          | (go_at_call 17; refine (HDT.o _ E2 d2 ?_ ?_).mono ?_
             · (with_reducible (repeat (first | exact Z2.o.rds | refine Rds.alloc ?_ _ | refine rdrw9 ?_)))
             · (with_reducible (repeat (first | exact HBX2.o | refine balloc9 ?_ _ | refine bdrw9 ?_)))
             intro e x3 hD
             obtain ⟨⟨Ad, cd, rfl⟩, hb4⟩ := dec_bad hD HMX.o (by decide)
             have HBX3 : Hd (Below wc.heap.size wc x3) := hd (bnew9 hb4 (by with_reducible (repeat (first | exact HBX2.o | refine balloc9 ?_ _ | refine bdrw9 ?_))))
             clear k0
             have k0 := (HBX3.o.cell (p := ⟨w.heap.size, 0, none⟩) xl).trans x0
             have KB3 := hd (fun g t cs (hB : Blk _ g t cs) => hB.below hb4 hB.lt)
             clear hD hb4
             first
               | (refine absorb9 (P := Blk x3 wc.heap.size 26 #[.int .i64 0, .string ⟨#[]⟩, .string ⟨#[]⟩, .string ⟨#[]⟩, .string ⟨#[]⟩, .int .i64 0, .int .i64 0, .slice none 0 0, .int .i64 0, .int .i64 0, .int .i64 0]) ?_ ?_
                  · (repeat (first | (with_reducible refine Blk.new_ _ _ ?_ _ _; simp; done) | with_reducible refine Blk.alloc ?_ _ | with_reducible refine Blk.drew ?_ | with_reducible refine KB3.o _ _ _ ?_ | with_reducible refine KB2.o _ _ ?_ | with_reducible refine KB.o _ _ _ ?_))
                  intro hz
                  have g0_ := hz.at_ 0 rfl
                  have f0_ := hz.frozen 0
                  have g1_ := hz.at_ 1 rfl
                  have f1_ := hz.frozen 1
                  have g2_ := hz.at_ 2 rfl
                  have f2_ := hz.frozen 2
                  have g3_ := hz.at_ 3 rfl
                  have f3_ := hz.frozen 3
                  have g4_ := hz.at_ 4 rfl
                  have f4_ := hz.frozen 4
                  have g5_ := hz.at_ 5 rfl
                  have f5_ := hz.frozen 5
                  have g6_ := hz.at_ 6 rfl
                  have f6_ := hz.frozen 6
                  have g7_ := hz.at_ 7 rfl
                  have f7_ := hz.frozen 7
                  have g8_ := hz.at_ 8 rfl
                  have f8_ := hz.frozen 8
                  have g9_ := hz.at_ 9 rfl
                  have f9_ := hz.frozen 9
                  have g10_ := hz.at_ 10 rfl
                  have f10_ := hz.frozen 10
                  clear hz)
               | (refine absorb9 (P := Blk x3 (wc.heap.size + 1) 26 #[.int .i64 0, .string ⟨#[]⟩, .string ⟨#[]⟩, .string ⟨#[]⟩, .string ⟨#[]⟩, .int .i64 0, .int .i64 0, .slice none 0 0, .int .i64 0, .int .i64 0, .int .i64 0]) ?_ ?_
                  · (repeat (first | (with_reducible refine Blk.new_ _ _ ?_ _ _; simp; done) | with_reducible refine Blk.alloc ?_ _ | with_reducible refine Blk.drew ?_ | with_reducible refine KB3.o _ _ _ ?_ | with_reducible refine KB2.o _ _ ?_ | with_reducible refine KB.o _ _ _ ?_))
                  intro hz
                  have g0_ := hz.at_ 0 rfl
                  have f0_ := hz.frozen 0
                  have g1_ := hz.at_ 1 rfl
                  have f1_ := hz.frozen 1
                  have g2_ := hz.at_ 2 rfl
                  have f2_ := hz.frozen 2
                  have g3_ := hz.at_ 3 rfl
                  have f3_ := hz.frozen 3
                  have g4_ := hz.at_ 4 rfl
                  have f4_ := hz.frozen 4
                  have g5_ := hz.at_ 5 rfl
                  have f5_ := hz.frozen 5
                  have g6_ := hz.at_ 6 rfl
                  have f6_ := hz.frozen 6
                  have g7_ := hz.at_ 7 rfl
                  have f7_ := hz.frozen 7
                  have g8_ := hz.at_ 8 rfl
                  have f8_ := hz.frozen 8
                  have g9_ := hz.at_ 9 rfl
                  have f9_ := hz.frozen 9
                  have g10_ := hz.at_ 10 rfl
                  have f10_ := hz.frozen 10
                  clear hz)
               | (refine absorb9 (P := Blk x3 (wc.heap.size + 1 + 1) 26 #[.int .i64 0, .string ⟨#[]⟩, .string ⟨#[]⟩, .string ⟨#[]⟩, .string ⟨#[]⟩, .int .i64 0, .int .i64 0, .slice none 0 0, .int .i64 0, .int .i64 0, .int .i64 0]) ?_ ?_
                  · (repeat (first | (with_reducible refine Blk.new_ _ _ ?_ _ _; simp; done) | with_reducible refine Blk.alloc ?_ _ | with_reducible refine Blk.drew ?_ | with_reducible refine KB3.o _ _ _ ?_ | with_reducible refine KB2.o _ _ ?_ | with_reducible refine KB.o _ _ _ ?_))
                  intro hz
                  have g0_ := hz.at_ 0 rfl
                  have f0_ := hz.frozen 0
                  have g1_ := hz.at_ 1 rfl
                  have f1_ := hz.frozen 1
                  have g2_ := hz.at_ 2 rfl
                  have f2_ := hz.frozen 2
                  have g3_ := hz.at_ 3 rfl
                  have f3_ := hz.frozen 3
                  have g4_ := hz.at_ 4 rfl
                  have f4_ := hz.frozen 4
                  have g5_ := hz.at_ 5 rfl
                  have f5_ := hz.frozen 5
                  have g6_ := hz.at_ 6 rfl
                  have f6_ := hz.frozen 6
                  have g7_ := hz.at_ 7 rfl
                  have f7_ := hz.frozen 7
                  have g8_ := hz.at_ 8 rfl
                  have f8_ := hz.frozen 8
                  have g9_ := hz.at_ 9 rfl
                  have f9_ := hz.frozen 9
                  have g10_ := hz.at_ 10 rfl
                  have f10_ := hz.frozen 10
                  clear hz)
               | (refine absorb9 (P := Blk x3 x1.heap.size 26 #[.int .i64 0, .string ⟨#[]⟩, .string ⟨#[]⟩, .string ⟨#[]⟩, .string ⟨#[]⟩, .int .i64 0, .int .i64 0, .slice none 0 0, .int .i64 0, .int .i64 0, .int .i64 0]) ?_ ?_
                  · (repeat (first | (with_reducible refine Blk.new_ _ _ ?_ _ _; simp; done) | with_reducible refine Blk.alloc ?_ _ | with_reducible refine Blk.drew ?_ | with_reducible refine KB3.o _ _ _ ?_ | with_reducible refine KB2.o _ _ ?_ | with_reducible refine KB.o _ _ _ ?_))
                  intro hz
                  have g0_ := hz.at_ 0 rfl
                  have f0_ := hz.frozen 0
                  have g1_ := hz.at_ 1 rfl
                  have f1_ := hz.frozen 1
                  have g2_ := hz.at_ 2 rfl
                  have f2_ := hz.frozen 2
                  have g3_ := hz.at_ 3 rfl
                  have f3_ := hz.frozen 3
                  have g4_ := hz.at_ 4 rfl
                  have f4_ := hz.frozen 4
                  have g5_ := hz.at_ 5 rfl
                  have f5_ := hz.frozen 5
                  have g6_ := hz.at_ 6 rfl
                  have f6_ := hz.frozen 6
                  have g7_ := hz.at_ 7 rfl
                  have f7_ := hz.frozen 7
                  have g8_ := hz.at_ 8 rfl
                  have f8_ := hz.frozen 8
                  have g9_ := hz.at_ 9 rfl
                  have f9_ := hz.frozen 9
                  have g10_ := hz.at_ 10 rfl
                  have f10_ := hz.frozen 10
                  clear hz)
               | (refine absorb9 (P := Blk x3 (x1.heap.size + 1) 26 #[.int .i64 0, .string ⟨#[]⟩, .string ⟨#[]⟩, .string ⟨#[]⟩, .string ⟨#[]⟩, .int .i64 0, .int .i64 0, .slice none 0 0, .int .i64 0, .int .i64 0, .int .i64 0]) ?_ ?_
                  · (repeat (first | (with_reducible refine Blk.new_ _ _ ?_ _ _; simp; done) | with_reducible refine Blk.alloc ?_ _ | with_reducible refine Blk.drew ?_ | with_reducible refine KB3.o _ _ _ ?_ | with_reducible refine KB2.o _ _ ?_ | with_reducible refine KB.o _ _ _ ?_))
                  intro hz
                  have g0_ := hz.at_ 0 rfl
                  have f0_ := hz.frozen 0
                  have g1_ := hz.at_ 1 rfl
                  have f1_ := hz.frozen 1
                  have g2_ := hz.at_ 2 rfl
                  have f2_ := hz.frozen 2
                  have g3_ := hz.at_ 3 rfl
                  have f3_ := hz.frozen 3
                  have g4_ := hz.at_ 4 rfl
                  have f4_ := hz.frozen 4
                  have g5_ := hz.at_ 5 rfl
                  have f5_ := hz.frozen 5
                  have g6_ := hz.at_ 6 rfl
                  have f6_ := hz.frozen 6
                  have g7_ := hz.at_ 7 rfl
                  have f7_ := hz.frozen 7
                  have g8_ := hz.at_ 8 rfl
                  have f8_ := hz.frozen 8
                  have g9_ := hz.at_ 9 rfl
                  have f9_ := hz.frozen 9
                  have g10_ := hz.at_ 10 rfl
                  have f10_ := hz.frozen 10
                  clear hz)
               | (refine absorb9 (P := Blk x3 x2.heap.size 26 #[.int .i64 0, .string ⟨#[]⟩, .string ⟨#[]⟩, .string ⟨#[]⟩, .string ⟨#[]⟩, .int .i64 0, .int .i64 0, .slice none 0 0, .int .i64 0, .int .i64 0, .int .i64 0]) ?_ ?_
                  · (repeat (first | (with_reducible refine Blk.new_ _ _ ?_ _ _; simp; done) | with_reducible refine Blk.alloc ?_ _ | with_reducible refine Blk.drew ?_ | with_reducible refine KB3.o _ _ _ ?_ | with_reducible refine KB2.o _ _ ?_ | with_reducible refine KB.o _ _ _ ?_))
                  intro hz
                  have g0_ := hz.at_ 0 rfl
                  have f0_ := hz.frozen 0
                  have g1_ := hz.at_ 1 rfl
                  have f1_ := hz.frozen 1
                  have g2_ := hz.at_ 2 rfl
                  have f2_ := hz.frozen 2
                  have g3_ := hz.at_ 3 rfl
                  have f3_ := hz.frozen 3
                  have g4_ := hz.at_ 4 rfl
                  have f4_ := hz.frozen 4
                  have g5_ := hz.at_ 5 rfl
                  have f5_ := hz.frozen 5
                  have g6_ := hz.at_ 6 rfl
                  have f6_ := hz.frozen 6
                  have g7_ := hz.at_ 7 rfl
                  have f7_ := hz.frozen 7
                  have g8_ := hz.at_ 8 rfl
                  have f8_ := hz.frozen 8
                  have g9_ := hz.at_ 9 rfl
                  have f9_ := hz.frozen 9
                  have g10_ := hz.at_ 10 rfl
                  have f10_ := hz.frozen 10
                  clear hz)
               | skip))
        all_goals
          go_wp2_with fail
          go_meet
          refine ⟨rfl, hd ?_⟩
          first
            | (with_reducible exact HBX3.o.alloc HBX3.o.size _)
            | (with_reducible exact b11_9 HBX3.o (Nat.le_refl _))
            | (refine b11_9 HBX3.o ?_; first | omega | exact HBX1.o.size | exact HBX2.o.size | (have := HBX1.o.size; omega))
      case rest =>
        obtain ⟨rfl, HF2⟩ := hcut
        go_wp2
        go_ret
        exact ⟨rfl, HB9.o.trans (HF2.o.mono HB9.o.size)⟩

end Go.Proofs.YtogjokofmfpmgaaGreatDoor
