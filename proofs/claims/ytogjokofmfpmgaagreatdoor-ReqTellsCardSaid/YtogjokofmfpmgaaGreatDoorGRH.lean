/-
  The reference's CheckReq, whole.
-/
import Derived.Test.YtogjokofmfpmgaaGreatDoorGRC
import Derived.Test.YtogjokofmfpmgaaGreatDoorGRA
import Derived.Test.YtogjokofmfpmgaaGreatDoorGRB
import Derived.Test.YtogjokofmfpmgaaGreatDoorGRD
import Derived.Test.YtogjokofmfpmgaaGreatDoorRRqC
import Derived.Test.YtogjokofmfpmgaaGreatDoorRReqG
import Derived.Test.YtogjokofmfpmgaaGreatDoorGRE
import Derived.Test.YtogjokofmfpmgaaGreatDoorGAN
import Derived.BigQuiet
import Derived.Test.YtogjokofmfpmgaaGreatDoorGAO
set_option linter.unusedVariables false
set_option linter.unusedSimpArgs false
namespace Go.Proofs.YtogjokofmfpmgaaGreatDoor
open Go.RowKit

set_option maxRecDepth 100000 in
set_option maxHeartbeats 4000000 in
theorem rcheck_calls (q : Rq) (A : Option Addr) (c : Nat) (w : World) (hr : Rds w A q.ops.length 5 (opsE q.ops)) (hs : RqS q) :
    Calls Tryz.prog 20 #[reqV q A c] w fun e w' => e = .returned (.int .i64 (chk q)) ∧ Below w.heap.size w w' := by
  cases hk : isK q.k with
  | true => exact rcheck_in q A c w hk hr hs
  | false =>
    have HV := hd (chk_12 hk)
    have hor : q.k < 1 ∨ 11 < q.k := by
      unfold isK at hk
      simp at hk
      omega
    clear hk hr hs
    unfold reqV reqE
    generalize chk q = X0 at *
    obtain ⟨k, tn, col, uid, card, ck, cv, ops, tok, most, ticks⟩ := q
    simp only at *
    obtain ⟨X, hX⟩ : ∃ X, X = w.alloc (.cells #[.int .i64 k, .string (bs tn), .string (bs col), .string (bs uid), .string (bs card), .int .i64 ck, .int .i64 cv, .slice A ops.length c, .int .i64 tok, .int .i64 most, .int .i64 ticks] 26) := ⟨_, rfl⟩
    have q1 : Blk X w.heap.size 26 #[.int .i64 k, .string (bs tn), .string (bs col), .string (bs uid), .string (bs card), .int .i64 ck, .int .i64 cv, .slice A ops.length c, .int .i64 tok, .int .i64 most, .int .i64 ticks] := by rw [hX]; exact Blk.new _ _ _
    have HBX := hd (show Below w.heap.size w X by rw [hX]; exact (Below.refl _ w).alloc (Nat.le_refl _) _)
    have r0 := q1.at_ 0 rfl
    have HX := hd hX
    clear q1 hX
    rcases hor with h | h
    · have h1 : decide (k < 1) = true := by simpa using h
      go_enter Tryz.func20, Tryz.ntmps20
      go_upto_region 1 with (fail)
      rw [← HX.o]
      go_wp2
      go_ret
      exact ⟨ret_int HV.o.symm, HBX.o⟩
    · have h1 : decide (k < 1) = false := by simp; omega
      have h2 : decide ((11 : Int) < k) = true := by simpa using h
      go_enter Tryz.func20, Tryz.ntmps20
      go_upto_region 1 with (fail)
      rw [← HX.o]
      go_wp2
      go_ret
      exact ⟨ret_int HV.o.symm, HBX.o⟩
end Go.Proofs.YtogjokofmfpmgaaGreatDoor
namespace Go.Proofs.YtogjokofmfpmgaaGreatDoor
open Go.RowKit

set_option maxRecDepth 100000 in
set_option maxHeartbeats 4000000 in
theorem renc_calls (q : Rq) (A : Option Addr) (c : Nat) (w : World) (hr : Rds w A q.ops.length 5 (opsE q.ops)) (hs : RqS q) (hB : RqB q) :
    Calls Tryz.prog 16 #[reqV q A c] w fun e w' => EncR w q e w' := by
  have C1 := fun W (h : Below w.heap.size w W) => rcheck_calls q A c W (hr.below h) hs
  by_cases h0 : chk q = 0
  · obtain ⟨k, tn, col, uid, card, ck, cv, ops, tok, most, ticks⟩ := q
    exact renc_in k tn col uid card ck cv ops tok most ticks A c w hr hB h0 C1
  · have H0 := hd h0
    have h0b : (chk q != 0) = true := by simpa using h0
    unfold reqV reqE at *
    generalize q.ops.length = n at *
    obtain ⟨Y, hY⟩ : ∃ Y, Y = w.alloc (.cells #[.int .i64 q.k, .string (bs q.tn), .string (bs q.col), .string (bs q.uid), .string (bs q.card), .int .i64 q.ck, .int .i64 q.cv, .slice A n c, .int .i64 q.tok, .int .i64 q.most, .int .i64 q.ticks] 26) := ⟨_, rfl⟩
    have HK := hd (show Blk Y w.heap.size 26 #[.int .i64 q.k, .string (bs q.tn), .string (bs q.col), .string (bs q.uid), .string (bs q.card), .int .i64 q.ck, .int .i64 q.cv, .slice A n c, .int .i64 q.tok, .int .i64 q.most, .int .i64 q.ticks] by rw [hY]; exact Blk.new _ _ _)
    have HBY := hd (show Below w.heap.size w Y by rw [hY]; exact (Below.refl _ w).alloc (Nat.le_refl _) _)
    have HYY := hd hY
    replace C1 := hd (C1 Y HBY.o)
    have y0 := HK.o.at_ 0 rfl
    have y1 := HK.o.at_ 1 rfl
    have y2 := HK.o.at_ 2 rfl
    have y3 := HK.o.at_ 3 rfl
    have y4 := HK.o.at_ 4 rfl
    have y5 := HK.o.at_ 5 rfl
    have y6 := HK.o.at_ 6 rfl
    have y7 := HK.o.at_ 7 rfl
    have y8 := HK.o.at_ 8 rfl
    have y9 := HK.o.at_ 9 rfl
    have y10 := HK.o.at_ 10 rfl
    have hl0 := HK.o.lt
    clear hr hs hB hY h0
    go_enter Tryz.func16, Tryz.ntmps16
    go_upto_region 1 with (fail)
    rw [← HYY.o]
    go_wp2_with fail
    refine C1.o.mono ?_
    rintro e w1 ⟨rfl, hb1⟩
    have HB1 := hd (HBY.o.trans (hb1.mono HBY.o.size))
    clear hb1
    go_wp2
    go_ret2
    exact ⟨fun h => absurd h H0.o, fun _ => ⟨rfl, HB1.o⟩⟩

end Go.Proofs.YtogjokofmfpmgaaGreatDoor
namespace Go.Proofs.YtogjokofmfpmgaaGreatDoor
open Go.RowKit

/-- Bytes in memory that is older than B. -/
structure Old (w : World) (B : Nat) (A : Option Addr) (n : Nat) (xs : List Value) : Prop where
  len : xs.length = n
  at_ : 0 < n → ∃ g o, A = some ⟨g, o, none⟩ ∧ g < B ∧ ∀ j u, xs[j]? = some u → w.cell? ⟨g, o + j, none⟩ = some u
theorem Old.below {w w' : World} {B : Nat} {A : Option Addr} {n : Nat} {xs : List Value} (h : Old w B A n xs) (hb : Below B w w') : Old w' B A n xs :=
  ⟨h.len, fun hn => by
    obtain ⟨g, o, hA, hg, hc⟩ := h.at_ hn
    exact ⟨g, o, hA, hg, fun j u hu => (hb.cell (p := ⟨g, o + j, none⟩) hg).trans (hc j u hu)⟩⟩
theorem Old.of {w : World} {A : Option Addr} {n : Nat} {xs : List Value} (h : Rds w A n 1 xs) : Old w w.heap.size A n xs :=
  ⟨by have := h.len; omega, fun hn => by
    obtain ⟨g, o, hA, hg, hc⟩ := h.at_ hn
    exact ⟨g, o, hA, hg, hc⟩⟩
theorem Old.rds {w : World} {B : Nat} {A : Option Addr} {n : Nat} {xs : List Value} (h : Old w B A n xs) (hB : B ≤ w.heap.size) : Rds w A n 1 xs :=
  ⟨by have := h.len; omega, fun hn => by
    obtain ⟨g, o, hA, hg, hc⟩ := h.at_ hn
    exact ⟨g, o, hA, by omega, hc⟩⟩
/-- The reference's reader. -/
structure RkR (w : World) (B g : Nat) (l : List UInt8) (st : Option (List UInt8)) : Prop where
  o : ∃ (A : Option Addr) (n c : Nat) (k : Nat) (e : Int), Blk w g 96 #[.slice A n c, .int .i64 k, .int .i64 e] ∧ Old w B A n (u8E l) ∧ n ≤ c ∧ n = l.length ∧ k ≤ n ∧ B ≤ g ∧ ((e = 0 ∧ st = some (l.drop k)) ∨ (e ≠ 0 ∧ st = none))
theorem RkR.lt {w : World} {B g : Nat} {l : List UInt8} {st : Option (List UInt8)} (h : RkR w B g l st) : g < w.heap.size ∧ B ≤ g := by
  obtain ⟨A, n, c, k, e, hb, _, _, _, _, hB, _⟩ := h.o
  exact ⟨hb.lt, hB⟩
theorem RkR.chg {w w' : World} {T : Nat → Prop} {B g : Nat} {l : List UInt8} {st : Option (List UInt8)} (h : RkR w B g l st) (hc : Chg T w w') (hT : ∀ k, T k → w.heap.size ≤ k ∨ (B ≤ k ∧ ∃ t cs, Blk w k t cs ∧ 96 ≠ t)) : RkR w' B g l st := by
  obtain ⟨A, n, c, k, e, hb, ho, h1, h2, h3, h4, h5⟩ := h.o
  refine ⟨A, n, c, k, e, hb.chg hc (fun hg => ?_), ho.below (hc.below (fun k hk => ?_) (by have := hb.lt; omega)), h1, h2, h3, h4, h5⟩
  · rcases hT _ hg with hg | ⟨_, t, cs, hx, hn⟩
    · have := hb.lt; omega
    · exact hb.ne_ hx hn rfl
  · rcases hT _ hk with hg | ⟨hg, _⟩
    · have := hb.lt; omega
    · exact hg
theorem RkR.below {w w' : World} {B g : Nat} {l : List UInt8} {st : Option (List UInt8)} (h : RkR w B g l st) (hb : Below w.heap.size w w') : RkR w' B g l st :=
  h.chg (Chg.of_below Non hb) (fun _ h => h.elim)
theorem RkR.alloc {w : World} {B g : Nat} {l : List UInt8} {st : Option (List UInt8)} (h : RkR w B g l st) (o : Obj) : RkR (w.alloc o) B g l st := h.below ((Below.refl _ w).alloc (Nat.le_refl _) o)
theorem RkR.far {w : World} {B g : Nat} {l : List UInt8} {st : Option (List UInt8)} (h : RkR w B g l st) {b i : Nat} {t : TypeId} {cs : Array Value} (hb : Blk w b t cs) (h1 : 96 ≠ t) (hB : B ≤ b) (u : Value) : RkR (w.setCell ⟨b, i, none⟩ u) B g l st :=
  h.chg (T := One b) ((Chg.refl (One b) w).setCell (p := ⟨b, i, none⟩) (.inl rfl) u) (fun k hk => .inr ⟨by rw [show k = b from hk]; exact hB, t, cs, by rw [show k = b from hk]; exact hb, h1⟩)
/-- The store of a place or an error. -/
theorem RkR.at_ {w : World} {B g : Nat} {l : List UInt8} {A : Option Addr} {n c k : Nat} {e : Int} {st : Option (List UInt8)} (hb : Blk w g 96 #[.slice A n c, .int .i64 k, .int .i64 e]) (ho : Old w B A n (u8E l)) (hnc : n ≤ c) (hn : n = l.length) (hB : B ≤ g) (q : Nat) (hq : q ≤ n) (he : e = 0) (hst : st = some (l.drop q)) : RkR (w.setCell ⟨g, 1, none⟩ (.int .i64 q)) B g l st :=
  ⟨A, n, c, q, e, hb.set_ 1 _, ho.below (((Below.refl B w).setCell (p := ⟨g, 1, none⟩) hB _)), hnc, hn, hq, hB, .inl ⟨he, hst⟩⟩
theorem RkR.er {w : World} {B g : Nat} {l : List UInt8} {A : Option Addr} {n c k : Nat} {e : Int} {st : Option (List UInt8)} (hb : Blk w g 96 #[.slice A n c, .int .i64 k, .int .i64 e]) (ho : Old w B A n (u8E l)) (hnc : n ≤ c) (hn : n = l.length) (hk : k ≤ n) (hB : B ≤ g) (x : Int) (hx : x ≠ 0) (hst : st = none) : RkR (w.setCell ⟨g, 2, none⟩ (.int .i64 x)) B g l st :=
  ⟨A, n, c, k, x, hb.set_ 2 _, ho.below (((Below.refl B w).setCell (p := ⟨g, 2, none⟩) hB _)), hnc, hn, hk, hB, .inr ⟨hx, hst⟩⟩

set_option maxRecDepth 100000 in
set_option maxHeartbeats 8000000 in
theorem rlook_calls (w : World) (g : Nat) (A : Option Addr) (n c : Nat) (l : List UInt8) (k : Nat) (e0 : Int) (hb : Blk w g 96 #[.slice A n c, .int .i64 k, .int .i64 e0]) (hr : Rds w A n 1 (u8E l)) (hnc : n ≤ c) (hn : n = l.length) (hs : n ≤ 1000000) (hk : k ≤ n) :
    Calls Tryz.prog 85 #[.pointer (some ⟨g, 0, none⟩)] w fun e w' => NumR l k e ∧ Below w.heap.size w w' := by
  have b0 := hb.at_ 0 rfl
  have b1 := hb.at_ 1 rfl
  have hgl := hb.lt
  have HN := hd hn
  have BD := fun q => bdrewN (Below.refl w.heap.size w) q
  replace BD := hd BD
  by_cases h1 : n ≤ k
  · have HV := hd (num_nil (l := l) (k := k) (by rw [← hn]; exact h1))
    have h1i : (n : Int) ≤ (k : Int) := by omega
    clear hr hn hb
    go_enter Tryz.func85, Tryz.ntmps85
    go_wp2_with fail
    go_quiet (fail)
    go_wp2
    go_ret3
    exact ⟨.no 14 (.inl rfl) HV.o rfl, by (with_reducible repeat (first | exact Below.refl _ _ | refine bdrewN ?_ _))⟩
  have hkn : k < n := by omega
  have hkl : k < l.length := by omega
  have hki : (k : Int) < (n : Int) := by omega
  have hkd : decide ((n : Int) ≤ (k : Int)) = false := by simp; omega
  have hk0 : (0 : Int) ≤ (k : Int) := by omega
  obtain ⟨g1, o1, rfl, hg1, hc⟩ := hr.at_ (by omega)
  have c0 : w.cell? ⟨g1, o1 + k, none⟩ = some (.int .u8 l[k].toNat) := hc k _ (u8E_at l k hkl)
  have hf := l[k].toNat_lt
  by_cases h2 : l[k].toNat ≤ 247
  · have HV := hd (num_one hkl h2)
    obtain ⟨f, hfe⟩ : ∃ f, l[k].toNat = f := ⟨_, rfl⟩
    rw [hfe] at HV c0 h2
    have h2i : decide ((f : Int) - 247 < 1) = true := by simp; omega
    clear hr hn hb hc hfe hf
    go_enter Tryz.func85, Tryz.ntmps85
    go_wp2_with fail
    go_quiet (fail)
    go_wp2_with fail
    go_quiet (fail)
    go_wp2_with fail
    go_quiet (fail)
    go_wp2
    go_ret3
    exact ⟨.yes f (k + 1) HV.o (by omega) (by rw [← HN.o]; omega) rfl, by (with_reducible repeat (first | exact Below.refl _ _ | refine bdrewN ?_ _))⟩
  by_cases h3 : n - k - 1 < l[k].toNat - 247
  · have HV := hd (num_short hkl (by omega) (by rw [← hn]; exact h3))
    obtain ⟨f, hfe⟩ : ∃ f, l[k].toNat = f := ⟨_, rfl⟩
    rw [hfe] at c0 h2 h3 hf
    have h2i : decide ((f : Int) - 247 < 1) = false := by simp; omega
    have h3i : decide ((n : Int) - k - 1 < (f : Int) - 247) = true := by simp; omega
    clear hr hn hb hc hfe
    go_enter Tryz.func85, Tryz.ntmps85
    go_wp2_with fail
    go_quiet (fail)
    go_wp2_with fail
    go_quiet (fail)
    go_wp2_with fail
    go_quiet (fail)
    go_wp2
    go_ret3
    exact ⟨.no 14 (.inl rfl) HV.o rfl, by (with_reducible repeat (first | exact Below.refl _ _ | refine bdrewN ?_ _))⟩
  have HV := hd (num_long hkl (by omega) (by rw [← hn]; exact h3))
  have hk1l : k + 1 < l.length := by omega
  have hc1 : w.cell? ⟨g1, o1 + (k + 1), none⟩ = some (.int .u8 ((l.drop (k + 1)).headD 0).toNat) := by
    rw [drop_at hk1l]
    exact hc (k + 1) _ (u8E_at l (k + 1) hk1l)
  obtain ⟨f, hfe⟩ : ∃ f, l[k].toNat = f := ⟨_, rfl⟩
  rw [hfe] at HV c0 h2 h3 hf
  obtain ⟨m, rfl⟩ : ∃ m, f = m + 247 := ⟨f - 247, by omega⟩
  rw [Nat.add_sub_cancel] at HV h3
  have hmi : ((m + 247 : Nat) : Int) - 247 = (m : Int) := by omega
  have h2i : decide ((m : Int) < 1) = false := by simp; omega
  have h3i : decide ((n : Int) - k - 1 < (m : Int)) = false := by simp; omega
  have hm8 : m ≤ 8 := by omega
  have HC := hd (show ∀ j, j < m → ∃ x : UInt8, val ((l.drop (k + 1)).take (j + 1)) = val ((l.drop (k + 1)).take j) * 256 + x.toNat ∧ w.cell? ⟨g1, o1 + (k + (j + 1)), none⟩ = some (.int .u8 x.toNat) from fun j hj => by
    have hj1 : k + 1 + j < l.length := by omega
    have hj2 : j < (l.drop (k + 1)).length := by rw [List.length_drop]; omega
    refine ⟨l[k + 1 + j], ?_, ?_⟩
    · rw [val_take hj2, List.getElem_drop]
    · rw [show k + (j + 1) = k + 1 + j by omega]
      exact hc (k + 1 + j) _ (u8E_at l (k + 1 + j) hj1))
  have HVL := hd (show ∀ j, j ≤ m → val ((l.drop (k + 1)).take j) < 256 ^ j from fun j hj => val_lt (by rw [List.length_take, List.length_drop]; omega))
  obtain ⟨L, hL⟩ : ∃ L, l.drop (k + 1) = L := ⟨_, rfl⟩
  rw [hL] at HC HVL HV hc1
  obtain ⟨hd0, hhd⟩ : ∃ x, L.headD 0 = x := ⟨_, rfl⟩
  rw [hhd] at HV hc1
  have hz := hd0.toNat_lt
  have hkn1 : k + 1 < n := by omega
  have hkn1i : (k : Int) + 1 < (n : Int) := by omega
  have hkn1j : (0 : Int) ≤ (k : Int) + 1 := by omega
  clear hr hn hb hc hfe hL hhd hkl hk1l
  by_cases g1z : hd0.toNat = 0
  · have t1 : ((hd0.toNat : Int) == 0) = true := by simp; omega
    have HV2 := hd (HV.o.trans (if_pos (.inl (UInt8.toNat_inj.1 g1z))))
    clear g1z HV HVL HC
    go_enter Tryz.func85, Tryz.ntmps85
    go_wp2_with fail
    go_quiet (fail)
    go_wp2_with fail
    go_quiet (fail)
    go_wp2_with fail
    go_quiet (fail)
    go_wp2_with fail
    go_quiet (fail)
    go_wp2
    go_ret3
    exact ⟨.no 1 (.inr rfl) HV2.o rfl, by (with_reducible repeat (first | exact Below.refl _ _ | refine bdrewN ?_ _))⟩
  have t1 : ((hd0.toNat : Int) == 0) = false := by simp; omega
  have g1' : ¬ hd0 = 0 := fun e => g1z (by rw [e]; rfl)
  go_enter Tryz.func85, Tryz.ntmps85
  go_wp2_with fail
  go_quiet (fail)
  go_wp2_with fail
  go_quiet (fail)
  go_wp2_with fail
  go_quiet (fail)
  go_wp2_with fail
  go_quiet (fail)
  go_wp2_with fail
  go_loopw [7, 6] (fun i u wr => ∃ (j : Nat) (x : Int), i = .int .i64 ((j + 1 : Nat) : Int) ∧ j ≤ m ∧ u = .int .u64 x ∧ Hd (x = (val (L.take j) : Int)) ∧ Hd (Below w.heap.size w wr)) (fun i _ _ => m + 1 - (intOf i).toNat)
  case atStart => exact ⟨0, 0, rfl, by omega, rfl, hd rfl, hd (by (with_reducible repeat (first | exact Below.refl _ _ | refine bdrewN ?_ _)))⟩
  case round =>
    obtain ⟨j, x, rfl, hj, rfl, HX, HBW⟩ := hrel
    obtain ⟨wi, rfl⟩ : ∃ wi : World, wi = wr := ⟨_, rfl⟩
    have b0' := (HBW.o.cell (p := ⟨g, 0, none⟩) hgl).trans b0
    have b1' := (HBW.o.cell (p := ⟨g, 1, none⟩) hgl).trans b1
    by_cases hlt : j < m
    · obtain ⟨y, HY, hcell⟩ := HC.o j hlt
      replace hcell := (HBW.o.cell (p := ⟨g1, o1 + (k + (j + 1)), none⟩) hg1).trans hcell
      have hx0 : 0 ≤ x := by rw [HX.o]; omega
      have hx56 : x < 72057594037927936 := by
        have h1 := HVL.o j hj
        have h2 : 256 ^ j ≤ 256 ^ 7 := Nat.pow_le_pow_right (by decide) (by omega)
        rw [HX.o]
        have h3 : (256 : Nat) ^ 7 = 72057594037927936 := by decide
        omega
      have hy := y.toNat_lt
      have HOR := hd (orU x (y.toNat : Int) hx0 (by omega) (by omega) (by omega))
      have HYY := hd HY
      clear HY
      obtain ⟨i, hi⟩ : ∃ i : Nat, j + 1 = i := ⟨_, rfl⟩
      rw [hi] at hcell ⊢
      have him : (i : Int) ≤ (m : Int) := by omega
      have hkin : k + i < n := by omega
      have hkini : (k : Int) + (i : Int) < (n : Int) := by omega
      have hki0 : (0 : Int) ≤ (k : Int) + (i : Int) := by omega
      have hkw : IntKind.i64.wrap ((k : Int) + (i : Int)) = (k : Int) + (i : Int) := IntWalk.i64_in _ (by omega)
      have hkt : ((k : Int) + (i : Int)).toNat = k + i := by omega
      have HI := hd hi
      clear hi
      go_wp2_with fail
      go_quiet (fail)
      go_wp2_with fail
      go_roundw
      case rel => exact ⟨j + 1, x * 256 + (y.toNat : Int), by rw [HI.o]; go_num, by omega, by first | rfl | (rw [HOR.o]), hd (by rw [HYY.o, HX.o]; push_cast; rfl), hd (bdrewN HBW.o _)⟩
      case measure => have := HI.o; simp [intOf]; omega
    · obtain rfl : j = m := by omega
      have hvl := HVL.o j (Nat.le_refl _)
      have hvl8 : val (L.take j) < 18446744073709551616 := by
        have h2 : 256 ^ j ≤ 256 ^ 8 := Nat.pow_le_pow_right (by decide) (by omega)
        have h3 : (256 : Nat) ^ 8 = 18446744073709551616 := by decide
        omega
      obtain ⟨v, hv⟩ : ∃ v, val (L.take j) = v := ⟨_, rfl⟩
      rw [hv] at HX HV
      obtain rfl : x = (v : Int) := HX.o
      have hlim : ((j + 1 : Nat) : Int) ≤ (j : Int) → False := by omega
      have hlimd : decide (((j : Int) + 1) ≤ (j : Int)) = false := decide_eq_false (by omega)
      by_cases g2 : v ≤ 247
      · have t2 : decide ((v : Int) < 248) = true := by simp; omega
        have HV2 := hd (HV.o.trans (if_pos (.inr (.inl g2))))
        clear g1z g1' hv HV hvl HVL HC
        go_wp2
        go_ret3
        exact ⟨.no 1 (.inr rfl) HV2.o rfl, HBW.o⟩
      · have t2 : decide ((v : Int) < 248) = false := by simp; omega
        by_cases g3 : 9223372036854775808 ≤ v
        · have t3 : decide ((9223372036854775807 : Int) < (v : Int)) = true := by simp; omega
          have HV2 := hd (HV.o.trans (if_pos (.inr (.inr (by have : (2 : Nat) ^ 63 = 9223372036854775808 := by decide
                                                             omega)))))
          clear g1z g1' hv HV hvl HVL HC
          go_wp2
          go_ret3
          exact ⟨.no 1 (.inr rfl) HV2.o rfl, HBW.o⟩
        · have t3 : decide ((9223372036854775807 : Int) < (v : Int)) = false := by simp; omega
          have HV2 := hd (HV.o.trans (if_neg (fun h => by
            have : (2 : Nat) ^ 63 = 9223372036854775808 := by decide
            rcases h with h | h | h
            · exact g1' h
            · exact g2 h
            · omega)))
          clear g1z g1' hv HV hvl HVL HC
          go_wp2_with fail
          go_quiet (fail)
          go_wp2
          go_ret3
          exact ⟨.yes v (k + 1 + j) HV2.o (by omega) (by rw [← HN.o]; omega) rfl, bdrewN HBW.o _⟩

end Go.Proofs.YtogjokofmfpmgaaGreatDoor
namespace Go.Proofs.YtogjokofmfpmgaaGreatDoor
open Go.RowKit

set_option maxRecDepth 100000 in
set_option maxHeartbeats 4000000 in
theorem kNum_calls (w : World) (B g : Nat) (l : List UInt8) (st : Option (List UInt8)) (h : RkR w B g l st) (hl : l.length ≤ 1000000) :
    Calls Tryz.prog 64 #[.pointer (some ⟨g, 0, none⟩)] w fun e w' => ∃ v, e = .returned (.int .i64 v) ∧ NumOk st v ∧ RkR w' B g l (numS st) ∧ Chg (One g) w w' := by
  obtain ⟨A, n, c, k, e, hb, ho, hnc, hn, hk, hB, hst⟩ := h.o
  have H := hd h
  have b2 := hb.at_ 2 rfl
  have hlt := hb.lt
  rcases hst with ⟨rfl, rfl⟩ | ⟨he, rfl⟩
  · have C1 := hd (rlook_calls w g A n c l k 0 hb (ho.rds (by omega)) hnc hn (by omega) hk)
    have HB := hd hb
    have HO := hd ho
    have HN := hd hn
    clear hb ho hn
    go_enter Tryz.func64, Tryz.ntmps64
    go_wp2_with fail
    refine C1.o.mono ?_
    rintro e w1 ⟨hh, hbw⟩
    have hb1 := HB.o.below hbw hlt
    have ho1 := HO.o.below (hbw.mono (by omega) : Below B w w1)
    have q1 := hb1.at_ 1 rfl
    have q2 := hb1.at_ 2 rfl
    have f1 := hb1.frozen 1
    have f2 := hb1.frozen 2
    have hlt1 := hb1.lt
    have HB1 := hd hb1
    have HO1 := hd ho1
    have HC1 := hd (Chg.of_below (One g) hbw)
    clear hb1 ho1 hbw
    rcases hh with ⟨x, hx, hv, rfl⟩ | ⟨v, q, hv, hq, hq2, rfl⟩
    · have HV := hd hv
      have hx0 : (x != 0) = true := by rcases hx with rfl | rfl <;> rfl
      have HX := hd hx
      clear hv hx
      go_wp2
      go_ret
      refine ⟨0, rfl, ⟨by decide, by decide, fun p hp => ?_⟩, RkR.er HB1.o HO1.o hnc HN.o hk hB x ?_ ?_, HC1.o.setCell (p := ⟨g, 2, none⟩) (.inl rfl) _⟩
      · rw [Option.bind_some, HV.o] at hp; cases hp
      · rcases HX.o with rfl | rfl <;> decide
      · rw [numS, Option.bind_some, HV.o]; rfl
    · have HV := hd hv
      have hbd := numAt_bd hv
      rw [← HN.o] at hq2
      clear hv
      go_wp2
      go_ret
      refine ⟨v, rfl, ⟨hbd.1, hbd.2, fun p hp => ?_⟩, RkR.at_ HB1.o HO1.o hnc HN.o hB q hq2 rfl ?_, HC1.o.setCell (p := ⟨g, 1, none⟩) (.inl rfl) _⟩
      · rw [Option.bind_some, HV.o] at hp; injection hp with hp; rw [← hp]
      · rw [numS, Option.bind_some, HV.o]; rfl
  · have he0 : (e != 0) = true := by simpa using he
    clear hb ho hn he
    go_enter Tryz.func64, Tryz.ntmps64
    go_wp2
    go_ret
    exact ⟨0, rfl, ⟨by decide, by decide, fun p hp => by cases hp⟩, H.o, Chg.refl _ _⟩

set_option maxRecDepth 100000 in
set_option maxHeartbeats 8000000 in
theorem kText_calls (w : World) (B g : Nat) (l : List UInt8) (st : Option (List UInt8)) (most : Nat) (h : RkR w B g l st) (hl : l.length ≤ 1000000) (hm : most ≤ 1000000) :
    Calls Tryz.prog 60 #[.pointer (some ⟨g, 0, none⟩), .int .i64 most] w fun e w' => ∃ s, e = .returned (.string s) ∧ TextOk most st s ∧ RkR w' B g l (textS most st) ∧ Chg (One g) w w' := by
  obtain ⟨A, n, c, k, e, hb, ho, hnc, hn, hk, hB, hst⟩ := h.o
  have H := hd h
  have b2 := hb.at_ 2 rfl
  have hlt := hb.lt
  rcases hst with ⟨rfl, rfl⟩ | ⟨he, rfl⟩
  · have C1 := hd (rlook_calls w g A n c l k 0 hb (ho.rds (by omega)) hnc hn (by omega) hk)
    have HB := hd hb
    have HO := hd ho
    have HN := hd hn
    have hnl : n ≤ 1000000 := by omega
    clear hb ho hn
    go_enter Tryz.func60, Tryz.ntmps60
    go_wp2_with fail
    refine C1.o.mono ?_
    rintro e w1 ⟨hh, hbw⟩
    have hb1 := HB.o.below hbw hlt
    have ho1 := HO.o.below (hbw.mono (by omega) : Below B w w1)
    have q0 := hb1.at_ 0 rfl
    have q1 := hb1.at_ 1 rfl
    have q2 := hb1.at_ 2 rfl
    have f1 := hb1.frozen 1
    have f2 := hb1.frozen 2
    have hlt1 := hb1.lt
    have HB1 := hd hb1
    have HO1 := hd ho1
    have HC1 := hd (Chg.of_below (One g) hbw)
    clear hb1 ho1 hbw b2
    rcases hh with ⟨x, hx, hv, rfl⟩ | ⟨v, q, hv, hq, hq2, rfl⟩
    · have HV := hd (textAt_none (most := most) hv)
      have hx0 : (x != 0) = true := by rcases hx with rfl | rfl <;> rfl
      have HX := hd hx
      clear hv hx
      go_wp2
      go_ret
      refine ⟨⟨#[]⟩, rfl, ⟨Nat.zero_le _, fun p hp => ?_⟩, RkR.er HB1.o HO1.o hnc HN.o hk hB x ?_ ?_, HC1.o.setCell (p := ⟨g, 2, none⟩) (.inl rfl) _⟩
      · rw [Option.bind_some, HV.o] at hp; cases hp
      · rcases HX.o with rfl | rfl <;> decide
      · rw [textS, Option.bind_some, HV.o]; rfl
    · have hbd := numAt_bd hv
      have hql : (l.drop q).length = n - q := by rw [List.length_drop, HN.o]
      rw [← HN.o] at hq2
      have hqi : (q : Int) ≤ (n : Int) := by omega
      by_cases h1 : (n : Int) - q < v
      · have HV := hd (textAt_long (most := most) hv (.inl (by rw [hql]; omega)))
        have h1i : decide ((n : Int) - q < v) = true := by simpa using h1
        clear hv hql hbd
        go_wp2
        go_ret
        refine ⟨⟨#[]⟩, rfl, ⟨Nat.zero_le _, fun p hp => ?_⟩, RkR.er HB1.o HO1.o hnc HN.o hk hB 14 (by decide) ?_, HC1.o.setCell (p := ⟨g, 2, none⟩) (.inl rfl) _⟩
        · rw [Option.bind_some, HV.o] at hp; cases hp
        · rw [textS, Option.bind_some, HV.o]; rfl
      · have h1i : decide ((n : Int) - q < v) = false := by simpa using h1
        by_cases h2 : (most : Int) < v
        · have HV := hd (textAt_long (most := most) hv (.inr h2))
          have h2i : decide ((most : Int) < v) = true := by simpa using h2
          clear hv hql hbd
          go_wp2
          go_ret
          refine ⟨⟨#[]⟩, rfl, ⟨Nat.zero_le _, fun p hp => ?_⟩, RkR.er HB1.o HO1.o hnc HN.o hk hB 2 (by decide) ?_, HC1.o.setCell (p := ⟨g, 2, none⟩) (.inl rfl) _⟩
          · rw [Option.bind_some, HV.o] at hp; cases hp
          · rw [textS, Option.bind_some, HV.o]; rfl
        · have h2i : decide ((most : Int) < v) = false := by simpa using h2
          have HV := hd (textAt_take (most := most) hv (fun h => h.elim (fun h => by rw [hql] at h; omega) h2))
          obtain ⟨m, rfl⟩ : ∃ m : Nat, v = m := ⟨v.toNat, by omega⟩
          have hmq : q + m ≤ n := by omega
          have hmm : m ≤ most := by omega
          have hmd : decide (most < m) = false := by simp; omega
          obtain ⟨t, ht⟩ : ∃ t, q + m = t := ⟨_, rfl⟩
          rw [ht] at hmq
          obtain ⟨g1, o1, hA, hg1, hcl⟩ := HO1.o.at_ (by omega : 0 < n)
          subst hA
          have hgg : g1 ≠ g := by omega
          obtain ⟨w2, hw2⟩ : ∃ w2, w2 = w1.setCell ⟨g, 1, none⟩ (.int .i64 (t : Int)) := ⟨_, rfl⟩
          have hB2 : Blk w2 g 96 #[.slice (some ⟨g1, o1, none⟩) n c, .int .i64 (t : Int), .int .i64 0] := by rw [hw2]; exact HB1.o.set_ 1 _
          have hO2 : Old w2 B (some ⟨g1, o1, none⟩) n (u8E l) := by rw [hw2]; exact HO1.o.below ((Below.refl B w1).setCell (p := ⟨g, 1, none⟩) hB _)
          have hCh := hd (show Chg (One g) w w2 by rw [hw2]; exact HC1.o.setCell (p := ⟨g, 1, none⟩) (.inl rfl) _)
          have HW2 := hd hw2
          have d0 := hB2.at_ 0 rfl
          have d1 := hB2.at_ 1 rfl
          have hg2 : g1 < w2.heap.size := by have := hB2.lt; omega
          have hcell := fun j (hj : q + j < n) => show w2.cell? ⟨g1, o1 + (q + j), none⟩ = _ from by
            obtain ⟨g3, o3, hA3, _, hc3⟩ := hO2.at_ (by omega : 0 < n)
            injection hA3 with hA3
            injection hA3 with e1 e2
            subst e1 e2
            exact hc3 (q + j) _ (u8E_at l (q + j) (by rw [← HN.o]; exact hj))
          have hrd : ∀ B', (0 < m → B' = some ⟨g1, o1 + q, none⟩) → Rds w2 B' m 1 (u8E ((l.drop q).take m)) := fun B' hB' => ⟨by rw [u8E_len, List.length_take, hql]; omega, fun h0 => ⟨g1, o1 + q, hB' h0, hg2, fun j u hu => by
            have hj : j < ((l.drop q).take m).length := by
              have := (List.getElem?_eq_some_iff.1 hu).1
              rwa [u8E_len] at this
            have hj2 : j < m ∧ q + j < n := by rw [List.length_take, hql] at hj; omega
            rw [u8E_at _ j hj] at hu
            rw [Nat.add_assoc, hcell j hj2.2, ← hu, List.getElem_take, List.getElem_drop]⟩⟩
          have hcv := fun B' (hB' : 0 < m → B' = some ⟨g1, o1 + q, none⟩) c' k' => conv_back (P := Tryz.prog) (w2.drewN k') 27 9 5 Tryz.underlying27 Tryz.underlying5 Tryz.underlying9 B' m c' ((l.drop q).take m) (by rw [List.length_take, hql]; omega) ((hrd B' hB').drewN k')
          have hfin : Hd (RkR w2 B g l (textS most (some (l.drop k)))) := hd ⟨some ⟨g1, o1, none⟩, n, c, t, 0, hB2, hO2, hnc, HN.o, hmq, hB, .inl ⟨rfl, by rw [textS, Option.bind_some, HV.o, Int.toNat_natCast]; show some _ = _; rw [List.drop_drop, ht]⟩⟩
          have hts : Hd (TextOk most (some (l.drop k)) (bs ((l.drop q).take m))) := hd ⟨by rw [bs_size, List.length_take, hql]; omega, fun p hp => by rw [Option.bind_some, HV.o] at hp; injection hp with hp; rw [← hp]; rfl⟩
          have hsum : (q : Int) + (m : Int) = (t : Int) := by omega
          have hqm : (q : Int) ≤ (t : Int) := by omega
          obtain ⟨b, hbb⟩ : ∃ b, bs ((l.drop q).take m) = b := ⟨_, rfl⟩
          rw [hbb] at hcv hts
          clear hv hql hcl hrd hcell hB2 hO2 hbb hw2
          have htq : t - q = m := by omega
          have htn : (t : Int) ≤ (n : Int) := by omega
          by_cases hcq : c = q
          · have hm0 : m = 0 := by omega
            subst hm0
            obtain rfl : q = t := by omega
            have hcv0 := hcv (some ⟨g1, o1, none⟩) (fun h => by omega)
            clear hcv ht htq hsum
            go_wp2_with fail
            rw [← HW2.o]
            go_quiet (fail)
            go_wp2
            go_ret
            exact ⟨b, rfl, hts.o, hfin.o.below (bdrewN (Below.refl _ _) nq), hCh.o.drewN nq⟩
          · have hcv0 := hcv (some ⟨g1, o1 + q, none⟩) (fun _ => rfl)
            clear hcv ht
            go_wp2_with fail
            rw [← HW2.o]
            go_quiet (fail)
            go_wp2
            go_ret
            exact ⟨b, rfl, hts.o, hfin.o.below (bdrewN (Below.refl _ _) nq), hCh.o.drewN nq⟩
  · have he0 : (e != 0) = true := by simpa using he
    clear hb ho hn he
    go_enter Tryz.func60, Tryz.ntmps60
    go_wp2
    go_ret
    exact ⟨⟨#[]⟩, rfl, ⟨Nat.zero_le _, fun p hp => by cases hp⟩, H.o, Chg.refl _ _⟩

theorem kleft_calls (w : World) (B g : Nat) (l r : List UInt8) (h : RkR w B g l (some r)) (hl : l.length ≤ 1000000) :
    Calls Tryz.prog 65 #[.pointer (some ⟨g, 0, none⟩)] w fun e w' => e = .returned (.int .i64 r.length) ∧ Below w.heap.size w w' := by
  obtain ⟨A, n, c, k, e, hb, ho, hnc, hn, hk, hB, hst⟩ := h.o
  have b0 := hb.at_ 0 rfl
  have b1 := hb.at_ 1 rfl
  have HR : Hd ((n : Int) - (k : Int) = (r.length : Int)) := hd (by
    rcases hst with ⟨_, h1⟩ | ⟨_, h1⟩
    · injection h1 with h1
      rw [h1, List.length_drop]; omega
    · cases h1)
  have hn6 : n ≤ 1000000 := by omega
  clear hb ho hn hst
  go_enter Tryz.func65, Tryz.ntmps65
  go_wp2_with fail
  go_quiet (fail)
  go_wp2
  go_ret
  exact ⟨ret_int HR.o, bdrewN (Below.refl _ _) _⟩

set_option maxHeartbeats 4000000 in
theorem ksmall_calls (w : World) (B g : Nat) (l : List UInt8) (st : Option (List UInt8)) (h : RkR w B g l st) (hl : l.length ≤ 1000000) :
    Calls Tryz.prog 62 #[.pointer (some ⟨g, 0, none⟩)] w fun e w' => ∃ v, e = .returned (.int .i64 v) ∧ SmallOk st v ∧ RkR w' B g l (smallS st) ∧ Chg (One g) w w' := by
  have C1 := hd (kNum_calls w B g l st h hl)
  clear h
  go_enter Tryz.func62, Tryz.ntmps62
  go_wp2_with fail
  refine C1.o.mono ?_
  rintro e w1 ⟨v, rfl, hv, hr, hc⟩
  have HV := hd hv
  have HR := hd hr
  have HC := hd hc
  obtain ⟨A, n, c, k, e, hb, ho, hnc, hn, hk, hB, hst⟩ := hr.o
  have b2 := hb.at_ 2 rfl
  have f2 := hb.frozen 2
  have hlt := hb.lt
  have HE := hd (fun (hbig : 2147483647 < v) => show RkR (w1.setCell ⟨g, 2, none⟩ (.int .i64 1)) B g l (smallS st) from RkR.er hb ho hnc hn hk hB 1 (by decide) (smallS_big hv hbig))
  clear hv hr hc hb ho hn hst
  by_cases hbig : 2147483647 < v
  · have hbi : decide ((2147483647 : Int) < v) = true := by simpa using hbig
    have HB := hd (smallS_big HV.o hbig)
    go_wp2
    go_ret
    refine ⟨0, rfl, ⟨⟨by decide, by decide⟩, fun p hp => ?_⟩, HE.o hbig, HC.o.setCell (p := ⟨g, 2, none⟩) (.inl rfl) _⟩
    exfalso
    have h := HB.o
    unfold smallS at h
    rw [hp] at h
    cases h
  · have hbi : decide ((2147483647 : Int) < v) = false := by simpa using hbig
    clear HE
    go_wp2
    go_ret
    exact ⟨v, rfl, small_of HV.o, by rw [smallS_ok HV.o (by omega)]; exact HR.o, HC.o⟩

/-- A mark that was read. -/
def mkS (st : Option (List UInt8)) (v : Int) : Option (List UInt8) := if 1 < v then none else numS st
theorem mkS_mark {st : Option (List UInt8)} {v : Int} (h : NumOk st v) : mkS st v = markS st v := by
  unfold mkS markS
  by_cases h1 : 1 < v
  · rw [if_pos h1, if_pos h1]
  · rw [if_neg h1, if_neg h1, smallS_ok h (by omega)]
set_option maxHeartbeats 4000000 in
theorem kmark_calls (w : World) (B g : Nat) (l : List UInt8) (st : Option (List UInt8)) (h : RkR w B g l st) (hl : l.length ≤ 1000000) :
    Calls Tryz.prog 63 #[.pointer (some ⟨g, 0, none⟩)] w fun e w' => ∃ v, e = .returned (.bool (v == 1)) ∧ NumOk st v ∧ RkR w' B g l (mkS st v) ∧ Chg (One g) w w' := by
  have C1 := hd (kNum_calls w B g l st h hl)
  clear h
  go_enter Tryz.func63, Tryz.ntmps63
  go_wp2_with fail
  refine C1.o.mono ?_
  rintro e w1 ⟨v, rfl, hv, hr, hc⟩
  have HV := hd hv
  have HR := hd hr
  have HC := hd hc
  obtain ⟨A, n, c, k, e, hb, ho, hnc, hn, hk, hB, hst⟩ := hr.o
  have b2 := hb.at_ 2 rfl
  have f2 := hb.frozen 2
  have hlt := hb.lt
  have HE := hd (fun (hbig : 1 < v) => show RkR (w1.setCell ⟨g, 2, none⟩ (.int .i64 1)) B g l (mkS st v) from RkR.er hb ho hnc hn hk hB 1 (by decide) (by unfold mkS; rw [if_pos hbig]))
  have HS := hd hst
  clear hv hr hc hb ho hn hst
  by_cases hbig : 1 < v
  · have hbi : decide ((1 : Int) < v) = true := by simpa using hbig
    have HM := hd (show mkS st v = none by unfold mkS; rw [if_pos hbig])
    have HNE := hd (HE.o hbig)
    by_cases he : e = 0
    · subst he
      clear HE
      go_wp2
      go_ret
      exact ⟨v, rfl, HV.o, HNE.o, HC.o.setCell (p := ⟨g, 2, none⟩) (.inl rfl) _⟩
    · have hed : (e == 0) = false := by simpa using he
      have HD := hd (show numS st = none by rcases HS.o with ⟨h1, _⟩ | ⟨_, h2⟩; exact absurd h1 he; exact h2)
      clear HE he
      go_wp2
      go_ret
      exact ⟨v, rfl, HV.o, by rw [HM.o, ← HD.o]; exact HR.o, HC.o⟩
  · have hbi : decide ((1 : Int) < v) = false := by simpa using hbig
    have HM := hd (show mkS st v = numS st by unfold mkS; rw [if_neg hbig])
    clear HE
    by_cases he : e = 0
    · subst he
      go_wp2
      go_ret
      exact ⟨v, rfl, HV.o, by rw [HM.o]; exact HR.o, HC.o⟩
    · have hed : (e == 0) = false := by simpa using he
      clear he
      go_wp2
      go_ret
      exact ⟨v, rfl, HV.o, by rw [HM.o]; exact HR.o, HC.o⟩

set_option maxRecDepth 100000 in
set_option maxHeartbeats 4000000 in
theorem kcond_calls (w : World) (B g : Nat) (l : List UInt8) (st : Option (List UInt8)) (h : RkR w B g l st) (hl : l.length ≤ 1000000) :
    Calls Tryz.prog 61 #[.pointer (some ⟨g, 0, none⟩)] w fun e w' => ∃ ck cv : Int, e = .returned (.agg #[.int .i64 ck, .int .i64 cv]) ∧ CondOk st ck cv ∧ RkR w' B g l (condS st) ∧ Chg (One g) w w' := by
  obtain ⟨X, hX⟩ : ∃ X, X = w.alloc (.cells #[.int .i64 0, .int .i64 0] 23) := ⟨_, rfl⟩
  have HBX := hd (show Blk X w.heap.size 23 #[.int .i64 0, .int .i64 0] by rw [hX]; exact Blk.new _ _ _)
  have HCX := hd (show Chg (One g) w X by rw [hX]; exact (Chg.refl _ _).alloc _)
  have hRX : RkR X B g l st := by rw [hX]; exact h.alloc _
  have C1 := hd (ksmall_calls X B g l st hRX hl)
  have hxl := h.lt
  have HX := hd hX
  clear h hX hRX
  go_enter Tryz.func61, Tryz.ntmps61
  go_wp2_with fail
  rw [← HX.o]
  refine C1.o.mono ?_
  rintro e w1 ⟨k, rfl, hk, hr1, hc1⟩
  have HK := hd hk
  have HC1 := hd (HCX.o.trans hc1 (fun k hk => .inl hk))
  have hb1 := HBX.o.chg hc1 (fun h => by have h : w.heap.size = g := h; omega)
  have HB1 := hd hb1
  have C2 := hd (kNum_calls w1 B g l (smallS st) hr1 hl)
  clear hr1 hk hc1 hb1
  go_wp2_with fail
  refine C2.o.mono ?_
  rintro e w2 ⟨v, rfl, hv, hr2, hc2⟩
  have hb2 := HB1.o.chg hc2 (fun h => by have h : w.heap.size = g := h; omega)
  have q0 := hb2.at_ 0 rfl
  have q1 := hb2.at_ 1 rfl
  have z0 := hb2.frozen 0
  have z1 := hb2.frozen 1
  have hl2 := hb2.lt
  have HB2 := hd hb2
  have HR2 := hd hr2
  have HV := hd hv
  have HC2 := hd (HC1.o.trans hc2 (fun k hk => .inl hk))
  clear hb2 hr2 hc2 hv
  go_wp2
  (try simp only [Exit.inBlock, Exit.then])
  refine bodyPost_ret (results_cell_row rfl _ _ _ _ _ _ _ rfl ((HB2.o.set_ 0 _).set_ 1 _) rfl rfl rfl) rfl ?_
  obtain ⟨o1, o2⟩ := cond_of HK.o HV.o
  refine ⟨k, v, rfl, o1, ?_, ?_⟩
  · rw [o2]
    exact (HR2.o.far HB2.o (by decide) (by omega) _).far (HB2.o.set_ 0 _) (by decide) (by omega) _
  · exact (HC2.o.setCell (.inr (Nat.le_refl _)) _).setCell (.inr (Nat.le_refl _)) _

end Go.Proofs.YtogjokofmfpmgaaGreatDoor
