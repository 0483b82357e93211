/-
  henref22.Sess: Next where nothing is asked.
-/
import Derived.Test.YtogjokofmfpmgaaGreatDoorGSA
import Derived.Test.YtogjokofmfpmgaaGreatDoorGAT
import Derived.Test.YtogjokofmfpmgaaGreatDoorGAO
import Derived.Test.YtogjokofmfpmgaaGreatDoorGAS
import Derived.BigQuiet
import Derived.Test.YtogjokofmfpmgaaGreatDoorGAR
set_option linter.unusedVariables false
set_option linter.unusedSimpArgs false
namespace Go.Proofs.YtogjokofmfpmgaaGreatDoor
open Go.RowKit

set_option maxRecDepth 100000 in
set_option maxHeartbeats 4000000 in
theorem rnext_over (w : World) (g p : Nat) (s : Ss) (h : RSesR w g p s) (hk : s.broken = true) :
    Calls Tryz.prog 35 #[.pointer (some ⟨g, 0, none⟩)] w fun e w' => e = .returned (turnV (tn0 4) none 0) ∧ Below w.heap.size w w' := by
  obtain ⟨w0, hw0⟩ : ∃ w0, w0 = w.alloc (.cells #[.int .i64 0, .int .i64 0, .int .i64 0, .int .i64 0, .string ⟨#[]⟩, .string ⟨#[]⟩, .string ⟨#[]⟩, .string ⟨#[]⟩, .int .i64 0, .int .i64 0, .slice none 0 0, .int .i64 0, .int .i64 0, .int .i64 0, .int .i64 0] 63) := ⟨_, rfl⟩
  have HZ0 := hd (show Blk w0 w.heap.size 63 #[.int .i64 0, .int .i64 0, .int .i64 0, .int .i64 0, .string ⟨#[]⟩, .string ⟨#[]⟩, .string ⟨#[]⟩, .string ⟨#[]⟩, .int .i64 0, .int .i64 0, .slice none 0 0, .int .i64 0, .int .i64 0, .int .i64 0, .int .i64 0] by rw [hw0]; exact Blk.new _ _ _)
  have HB0 := hd (show Below w.heap.size w w0 by rw [hw0]; exact (Below.refl _ w).alloc (Nat.le_refl _) _)
  have hs0 := h.b.below HB0.o h.b.lt
  have hp0 := h.p.below HB0.o h.p.lt
  have q0 := hs0.at_ 0 (v := .pointer (some ⟨p, 0, none⟩)) rfl
  have q3 := hs0.at_ 3 (v := .bool s.broken) rfl
  have p1 := hp0.at_ 1 (v := .string (bs s.buf)) rfl
  have HW0 := hd hw0
  have HH := hd h
  have hgw : g ≠ w.heap.size := Nat.ne_of_lt h.b.lt
  have hpw : p ≠ w.heap.size := Nat.ne_of_lt h.p.lt
  have HS0 := hd hs0
  have HP0 := hd hp0
  rw [hk] at q3
  obtain ⟨z0, z1, z2, z3, z4, z5, z6, z7, z8, z9, z10, z11, z12, z13, z14⟩ := c15 HZ0.o
  obtain ⟨f0, f1, f2, f3, f4, f5, f6, f7, f8, f9, f10, f11, f12, f13, f14⟩ := f15 HZ0.o
  clear hw0 h hs0 hp0 hk
  go_enter Tryz.func35, Tryz.ntmps35
  go_upto_region 1 with (fail)
  rw [← HW0.o]
  go_wp2_with fail
  (try simp only [Exit.inBlock, Exit.then])
  refine bodyPost_ret (results_cell_row rfl _ _ _ _ _ _ _ rfl (set15 HZ0.o) rfl rfl rfl) rfl ?_
  exact ⟨rfl, bel15 HB0.o⟩

set_option maxRecDepth 100000 in
set_option maxHeartbeats 4000000 in
theorem rnext_short (w : World) (g p : Nat) (s : Ss) (h : RSesR w g p s) (hk : s.broken = false) (hb : s.buf.length ≤ 1000000) (he : frE s.buf = 14) :
    Calls Tryz.prog 35 #[.pointer (some ⟨g, 0, none⟩)] w fun e w' => e = .returned (turnV (tn0 (if s.closed = true then 4 else 0)) none 0) ∧ Below w.heap.size w w' := by
  obtain ⟨w0, hw0⟩ : ∃ w0, w0 = w.alloc (.cells #[.int .i64 0, .int .i64 0, .int .i64 0, .int .i64 0, .string ⟨#[]⟩, .string ⟨#[]⟩, .string ⟨#[]⟩, .string ⟨#[]⟩, .int .i64 0, .int .i64 0, .slice none 0 0, .int .i64 0, .int .i64 0, .int .i64 0, .int .i64 0] 63) := ⟨_, rfl⟩
  have HZ0 := hd (show Blk w0 w.heap.size 63 #[.int .i64 0, .int .i64 0, .int .i64 0, .int .i64 0, .string ⟨#[]⟩, .string ⟨#[]⟩, .string ⟨#[]⟩, .string ⟨#[]⟩, .int .i64 0, .int .i64 0, .slice none 0 0, .int .i64 0, .int .i64 0, .int .i64 0, .int .i64 0] by rw [hw0]; exact Blk.new _ _ _)
  have HB0 := hd (show Below w.heap.size w w0 by rw [hw0]; exact (Below.refl _ w).alloc (Nat.le_refl _) _)
  have hs0 := h.b.below HB0.o h.b.lt
  have hp0 := h.p.below HB0.o h.p.lt
  have q0 := hs0.at_ 0 (v := .pointer (some ⟨p, 0, none⟩)) rfl
  have q3 := hs0.at_ 3 (v := .bool s.broken) rfl
  have p1 := hp0.at_ 1 (v := .string (bs s.buf)) rfl
  have HW0 := hd hw0
  have HH := hd h
  have hgw : g ≠ w.heap.size := Nat.ne_of_lt h.b.lt
  have hpw : p ≠ w.heap.size := Nat.ne_of_lt h.p.lt
  have HS0 := hd hs0
  have HP0 := hd hp0
  have C1 := rnext_calls w0 (bs s.buf) (by rw [bs_size]; exact hb)
  rw [bs_data] at C1
  unfold nextV at C1
  rw [he, if_neg (by decide), if_neg (by decide), if_neg (by decide)] at C1
  replace C1 := hd C1
  rw [hk] at q3
  have hwg : w.heap.size ≠ g := hgw.symm
  clear hw0 h hs0 hp0 hk he hb
  obtain ⟨cl, hcl⟩ : ∃ cl, s.closed = cl := ⟨_, rfl⟩
  have HCL := hd hcl
  rw [hcl]
  go_enter Tryz.func35, Tryz.ntmps35
  go_upto_region 1 with (fail)
  rw [← HW0.o]
  go_upto_region 4 with (go_at_call 80; refine C1.o.mono ?_; rintro e w1 ⟨rfl, hb1⟩; have HB1 := hd (HB0.o.trans (hb1.mono HB0.o.size)); have HZ1 := hd (HZ0.o.below hb1 HZ0.o.lt); have HS1 := hd (HS0.o.below hb1 HS0.o.lt); have HP1 := hd (HP0.o.below hb1 HP0.o.lt); clear hb1)
  obtain ⟨w2, hw2⟩ : ∃ w2, w2 = w1.alloc (.cells #[.int .i64 0, .string (bs [])] 107) := ⟨_, rfl⟩
  rw [← hw2]
  have HZ2 := hd (show Blk w2 w.heap.size 63 #[.int .i64 0, .int .i64 0, .int .i64 0, .int .i64 0, .string ⟨#[]⟩, .string ⟨#[]⟩, .string ⟨#[]⟩, .string ⟨#[]⟩, .int .i64 0, .int .i64 0, .slice none 0 0, .int .i64 0, .int .i64 0, .int .i64 0, .int .i64 0] by rw [hw2]; exact HZ1.o.alloc _)
  have HB2 := hd (show Below w.heap.size w w2 by rw [hw2]; exact HB1.o.alloc HB1.o.size _)
  have hs2 : Blk w2 g 56 #[.pointer (some ⟨p, 0, none⟩), .string (bs s.tn), .int .i64 s.seq, .bool s.broken] := by rw [hw2]; exact HS1.o.alloc _
  have hp2 : Blk w2 p 58 (pipE s.room s.buf s.closed) := by rw [hw2]; exact HP1.o.alloc _
  rw [hcl] at hp2
  have t0 := hs2.at_ 0 (v := .pointer (some ⟨p, 0, none⟩)) rfl
  have t2 := hp2.at_ 2 (v := .bool cl) rfl
  obtain ⟨z0, z1, z2, z3, z4, z5, z6, z7, z8, z9, z10, z11, z12, z13, z14⟩ := c15 HZ2.o
  obtain ⟨f0, f1, f2, f3, f4, f5, f6, f7, f8, f9, f10, f11, f12, f13, f14⟩ := f15 HZ2.o
  clear hw2 hs2 hp2 q0 q3 p1 HCL hcl
  cases cl with
  | true =>
    go_wp2_with fail
    (try simp only [Exit.inBlock, Exit.then])
    refine bodyPost_ret (results_cell_row rfl _ _ _ _ _ _ _ rfl (set15 HZ2.o) rfl rfl rfl) rfl ?_
    exact ⟨rfl, bel15 HB2.o⟩
  | false =>
    go_wp2_with fail
    (try simp only [Exit.inBlock, Exit.then])
    refine bodyPost_ret (results_cell_row rfl _ _ _ _ _ _ _ rfl (set15 HZ2.o) rfl rfl rfl) rfl ?_
    exact ⟨rfl, bel15 HB2.o⟩

set_option maxRecDepth 100000 in
set_option maxHeartbeats 4000000 in
theorem rnext_brk (w : World) (g p : Nat) (s : Ss) (h : RSesR w g p s) (hk : s.broken = false) (hb : s.buf.length ≤ 1000000) (he : frE s.buf ≠ 14) (he0 : frE s.buf ≠ 0) (hq : 0 ≤ s.seq ∧ s.seq ≤ 1000000) :
    Calls Tryz.prog 35 #[.pointer (some ⟨g, 0, none⟩)] w fun e w' => e = .returned (turnV ⟨3, s.seq + 1, 0, rq0, frE s.buf⟩ none 0) ∧ RSesR w' g p { s with seq := s.seq + 1, broken := true } ∧ Chg (Two g p) w w' := by
  obtain ⟨w0, hw0⟩ : ∃ w0, w0 = w.alloc (.cells #[.int .i64 0, .int .i64 0, .int .i64 0, .int .i64 0, .string ⟨#[]⟩, .string ⟨#[]⟩, .string ⟨#[]⟩, .string ⟨#[]⟩, .int .i64 0, .int .i64 0, .slice none 0 0, .int .i64 0, .int .i64 0, .int .i64 0, .int .i64 0] 63) := ⟨_, rfl⟩
  have HZ0 := hd (show Blk w0 w.heap.size 63 #[.int .i64 0, .int .i64 0, .int .i64 0, .int .i64 0, .string ⟨#[]⟩, .string ⟨#[]⟩, .string ⟨#[]⟩, .string ⟨#[]⟩, .int .i64 0, .int .i64 0, .slice none 0 0, .int .i64 0, .int .i64 0, .int .i64 0, .int .i64 0] by rw [hw0]; exact Blk.new _ _ _)
  have HB0 := hd (show Below w.heap.size w w0 by rw [hw0]; exact (Below.refl _ w).alloc (Nat.le_refl _) _)
  have hs0 := h.b.below HB0.o h.b.lt
  have hp0 := h.p.below HB0.o h.p.lt
  have q0 := hs0.at_ 0 (v := .pointer (some ⟨p, 0, none⟩)) rfl
  have q3 := hs0.at_ 3 (v := .bool s.broken) rfl
  have p1 := hp0.at_ 1 (v := .string (bs s.buf)) rfl
  have HW0 := hd hw0
  have HH := hd h
  have hgw : g ≠ w.heap.size := Nat.ne_of_lt h.b.lt
  have hpw : p ≠ w.heap.size := Nat.ne_of_lt h.p.lt
  have HS0 := hd hs0
  have HP0 := hd hp0
  have C1 := rnext_calls w0 (bs s.buf) (by rw [bs_size]; exact hb)
  rw [bs_data] at C1
  unfold nextV at C1
  rw [if_neg he0, if_neg he0, if_neg he0] at C1
  generalize frE s.buf = x at *
  replace C1 := hd C1
  rw [hk] at q3
  have e14 : (x == 14) = false := by simpa using he
  have e00 : (x != 0) = true := by simpa using he0
  have hwg : w.heap.size ≠ g := hgw.symm
  have hwr : IntKind.i64.wrap (s.seq + 1) = s.seq + 1 := by rw [IntKind.wrap_i64]; omega
  clear hw0 h hs0 hp0 hk he he0 hb hq
  go_enter Tryz.func35, Tryz.ntmps35
  go_upto_region 1 with (fail)
  rw [← HW0.o]
  go_upto_region 4 with (go_at_call 80; refine C1.o.mono ?_; rintro e w1 ⟨rfl, hb1⟩; have HB1 := hd (HB0.o.trans (hb1.mono HB0.o.size)); have HZ1 := hd (HZ0.o.below hb1 HZ0.o.lt); have HS1 := hd (HS0.o.below hb1 HS0.o.lt); have HP1 := hd (HP0.o.below hb1 HP0.o.lt); clear hb1)
  obtain ⟨w2, hw2⟩ : ∃ w2, w2 = w1.alloc (.cells #[.int .i64 0, .string (bs [])] 107) := ⟨_, rfl⟩
  rw [← hw2]
  have HZ2 := hd (show Blk w2 w.heap.size 63 #[.int .i64 0, .int .i64 0, .int .i64 0, .int .i64 0, .string ⟨#[]⟩, .string ⟨#[]⟩, .string ⟨#[]⟩, .string ⟨#[]⟩, .int .i64 0, .int .i64 0, .slice none 0 0, .int .i64 0, .int .i64 0, .int .i64 0, .int .i64 0] by rw [hw2]; exact HZ1.o.alloc _)
  have HB2 := hd (show Below w.heap.size w w2 by rw [hw2]; exact HB1.o.alloc HB1.o.size _)
  have hs2 : Blk w2 g 56 #[.pointer (some ⟨p, 0, none⟩), .string (bs s.tn), .int .i64 s.seq, .bool s.broken] := by rw [hw2]; exact HS1.o.alloc _
  have HP2 := hd (show Blk w2 p 58 (pipE s.room s.buf s.closed) by rw [hw2]; exact HP1.o.alloc _)
  have t2 := hs2.at_ 2 (v := .int .i64 s.seq) rfl
  have r2 := hs2.frozen 2
  have HS2 := hd hs2
  clear hw2 hs2 q0 q3 p1
  go_upto_region 9 with (fail)
  obtain ⟨w3, hw3⟩ : ∃ w3, w3 = w2.setCell ⟨g, 2, none⟩ (.int .i64 (s.seq + 1)) := ⟨_, rfl⟩
  rw [← hw3]
  have HZ3 := hd (show Blk w3 w.heap.size 63 #[.int .i64 0, .int .i64 0, .int .i64 0, .int .i64 0, .string ⟨#[]⟩, .string ⟨#[]⟩, .string ⟨#[]⟩, .string ⟨#[]⟩, .int .i64 0, .int .i64 0, .slice none 0 0, .int .i64 0, .int .i64 0, .int .i64 0, .int .i64 0] by rw [hw3]; exact HZ2.o.far hwg _)
  have hs3 : Blk w3 g 56 #[.pointer (some ⟨p, 0, none⟩), .string (bs s.tn), .int .i64 (s.seq + 1), .bool s.broken] := by rw [hw3]; simpa using HS2.o.set_ 2 (.int .i64 (s.seq + 1))
  have HP3 := hd (show Blk w3 p 58 (pipE s.room s.buf s.closed) by rw [hw3]; exact HP2.o.far (Ne.symm HH.o.ne) _)
  have HC3 := hd (show Chg (Two g p) w w3 by rw [hw3]; exact (Chg.of_below _ HB2.o).setCell (.inl (.inl rfl)) _)
  clear t2 r2 hw3
  have t2 := hs3.at_ 2 (v := .int .i64 (s.seq + 1)) rfl
  have t3 := hs3.at_ 3 (v := .bool s.broken) rfl
  have r3 := hs3.frozen 3
  have HS3 := hd hs3
  clear hs3
  obtain ⟨z0, z1, z2, z3, z4, z5, z6, z7, z8, z9, z10, z11, z12, z13, z14⟩ := c15 HZ3.o
  obtain ⟨f0, f1, f2, f3, f4, f5, f6, f7, f8, f9, f10, f11, f12, f13, f14⟩ := f15 HZ3.o
  go_wp2_with fail
  (try simp only [Exit.inBlock, Exit.then])
  refine bodyPost_ret (results_cell_row rfl _ _ _ _ _ _ _ rfl (set15 (HZ3.o.far hwg _)) rfl rfl rfl) rfl ?_
  exact ⟨rfl, ⟨far15 (by simpa using HS3.o.set_ 3 (.bool true)) hgw, far15 (HP3.o.far (Ne.symm HH.o.ne) _) hpw⟩, chg15 (HC3.o.setCell (.inl (.inl rfl)) _) (.inr (Nat.le_refl _))⟩
end Go.Proofs.YtogjokofmfpmgaaGreatDoor
namespace Go.Proofs.YtogjokofmfpmgaaGreatDoor
open Go.RowKit

/-- Bytes in memory that is older than B. -/
structure Old (w : World) (B : Nat) (A : Option Addr) (n : Nat) (xs : List Value) : Prop where
  len : xs.length = n
  at_ : 0 < n → ∃ g o, A = some ⟨g, o, none⟩ ∧ g < B ∧ ∀ j u, xs[j]? = some u → w.cell? ⟨g, o + j, none⟩ = some u
theorem Old.below {w w' : World} {B : Nat} {A : Option Addr} {n : Nat} {xs : List Value} (h : Old w B A n xs) (hb : Below B w w') : Old w' B A n xs :=
  ⟨h.len, fun hn => by
    obtain ⟨g, o, hA, hg, hc⟩ := h.at_ hn
    exact ⟨g, o, hA, hg, fun j u hu => (hb.cell (p := ⟨g, o + j, none⟩) hg).trans (hc j u hu)⟩⟩
theorem Old.of {w : World} {A : Option Addr} {n : Nat} {xs : List Value} (h : Rds w A n 1 xs) : Old w w.heap.size A n xs :=
  ⟨by have := h.len; omega, fun hn => by
    obtain ⟨g, o, hA, hg, hc⟩ := h.at_ hn
    exact ⟨g, o, hA, hg, hc⟩⟩
theorem Old.rds {w : World} {B : Nat} {A : Option Addr} {n : Nat} {xs : List Value} (h : Old w B A n xs) (hB : B ≤ w.heap.size) : Rds w A n 1 xs :=
  ⟨by have := h.len; omega, fun hn => by
    obtain ⟨g, o, hA, hg, hc⟩ := h.at_ hn
    exact ⟨g, o, hA, by omega, hc⟩⟩
/-- The reference's reader. -/
structure RkR (w : World) (B g : Nat) (l : List UInt8) (st : Option (List UInt8)) : Prop where
  o : ∃ (A : Option Addr) (n c : Nat) (k : Nat) (e : Int), Blk w g 96 #[.slice A n c, .int .i64 k, .int .i64 e] ∧ Old w B A n (u8E l) ∧ n ≤ c ∧ n = l.length ∧ k ≤ n ∧ B ≤ g ∧ ((e = 0 ∧ st = some (l.drop k)) ∨ (e ≠ 0 ∧ st = none))
theorem RkR.lt {w : World} {B g : Nat} {l : List UInt8} {st : Option (List UInt8)} (h : RkR w B g l st) : g < w.heap.size ∧ B ≤ g := by
  obtain ⟨A, n, c, k, e, hb, _, _, _, _, hB, _⟩ := h.o
  exact ⟨hb.lt, hB⟩
theorem RkR.chg {w w' : World} {T : Nat → Prop} {B g : Nat} {l : List UInt8} {st : Option (List UInt8)} (h : RkR w B g l st) (hc : Chg T w w') (hT : ∀ k, T k → w.heap.size ≤ k ∨ (B ≤ k ∧ ∃ t cs, Blk w k t cs ∧ 96 ≠ t)) : RkR w' B g l st := by
  obtain ⟨A, n, c, k, e, hb, ho, h1, h2, h3, h4, h5⟩ := h.o
  refine ⟨A, n, c, k, e, hb.chg hc (fun hg => ?_), ho.below (hc.below (fun k hk => ?_) (by have := hb.lt; omega)), h1, h2, h3, h4, h5⟩
  · rcases hT _ hg with hg | ⟨_, t, cs, hx, hn⟩
    · have := hb.lt; omega
    · exact hb.ne_ hx hn rfl
  · rcases hT _ hk with hg | ⟨hg, _⟩
    · have := hb.lt; omega
    · exact hg
theorem RkR.below {w w' : World} {B g : Nat} {l : List UInt8} {st : Option (List UInt8)} (h : RkR w B g l st) (hb : Below w.heap.size w w') : RkR w' B g l st :=
  h.chg (Chg.of_below Non hb) (fun _ h => h.elim)
theorem RkR.alloc {w : World} {B g : Nat} {l : List UInt8} {st : Option (List UInt8)} (h : RkR w B g l st) (o : Obj) : RkR (w.alloc o) B g l st := h.below ((Below.refl _ w).alloc (Nat.le_refl _) o)
theorem RkR.far {w : World} {B g : Nat} {l : List UInt8} {st : Option (List UInt8)} (h : RkR w B g l st) {b i : Nat} {t : TypeId} {cs : Array Value} (hb : Blk w b t cs) (h1 : 96 ≠ t) (hB : B ≤ b) (u : Value) : RkR (w.setCell ⟨b, i, none⟩ u) B g l st :=
  h.chg (T := One b) ((Chg.refl (One b) w).setCell (p := ⟨b, i, none⟩) (.inl rfl) u) (fun k hk => .inr ⟨by rw [show k = b from hk]; exact hB, t, cs, by rw [show k = b from hk]; exact hb, h1⟩)
/-- The store of a place or an error. -/
theorem RkR.at_ {w : World} {B g : Nat} {l : List UInt8} {A : Option Addr} {n c k : Nat} {e : Int} {st : Option (List UInt8)} (hb : Blk w g 96 #[.slice A n c, .int .i64 k, .int .i64 e]) (ho : Old w B A n (u8E l)) (hnc : n ≤ c) (hn : n = l.length) (hB : B ≤ g) (q : Nat) (hq : q ≤ n) (he : e = 0) (hst : st = some (l.drop q)) : RkR (w.setCell ⟨g, 1, none⟩ (.int .i64 q)) B g l st :=
  ⟨A, n, c, q, e, hb.set_ 1 _, ho.below (((Below.refl B w).setCell (p := ⟨g, 1, none⟩) hB _)), hnc, hn, hq, hB, .inl ⟨he, hst⟩⟩
theorem RkR.er {w : World} {B g : Nat} {l : List UInt8} {A : Option Addr} {n c k : Nat} {e : Int} {st : Option (List UInt8)} (hb : Blk w g 96 #[.slice A n c, .int .i64 k, .int .i64 e]) (ho : Old w B A n (u8E l)) (hnc : n ≤ c) (hn : n = l.length) (hk : k ≤ n) (hB : B ≤ g) (x : Int) (hx : x ≠ 0) (hst : st = none) : RkR (w.setCell ⟨g, 2, none⟩ (.int .i64 x)) B g l st :=
  ⟨A, n, c, k, x, hb.set_ 2 _, ho.below (((Below.refl B w).setCell (p := ⟨g, 2, none⟩) hB _)), hnc, hn, hk, hB, .inr ⟨hx, hst⟩⟩

set_option maxRecDepth 100000 in
set_option maxHeartbeats 8000000 in
theorem rlook_calls (w : World) (g : Nat) (A : Option Addr) (n c : Nat) (l : List UInt8) (k : Nat) (e0 : Int) (hb : Blk w g 96 #[.slice A n c, .int .i64 k, .int .i64 e0]) (hr : Rds w A n 1 (u8E l)) (hnc : n ≤ c) (hn : n = l.length) (hs : n ≤ 1000000) (hk : k ≤ n) :
    Calls Tryz.prog 85 #[.pointer (some ⟨g, 0, none⟩)] w fun e w' => NumR l k e ∧ Below w.heap.size w w' := by
  have b0 := hb.at_ 0 rfl
  have b1 := hb.at_ 1 rfl
  have hgl := hb.lt
  have HN := hd hn
  have BD := fun q => bdrewN (Below.refl w.heap.size w) q
  replace BD := hd BD
  by_cases h1 : n ≤ k
  · have HV := hd (num_nil (l := l) (k := k) (by rw [← hn]; exact h1))
    have h1i : (n : Int) ≤ (k : Int) := by omega
    clear hr hn hb
    go_enter Tryz.func85, Tryz.ntmps85
    go_wp2_with fail
    go_quiet (fail)
    go_wp2
    go_ret3
    exact ⟨.no 14 (.inl rfl) HV.o rfl, by (with_reducible repeat (first | exact Below.refl _ _ | refine bdrewN ?_ _))⟩
  have hkn : k < n := by omega
  have hkl : k < l.length := by omega
  have hki : (k : Int) < (n : Int) := by omega
  have hkd : decide ((n : Int) ≤ (k : Int)) = false := by simp; omega
  have hk0 : (0 : Int) ≤ (k : Int) := by omega
  obtain ⟨g1, o1, rfl, hg1, hc⟩ := hr.at_ (by omega)
  have c0 : w.cell? ⟨g1, o1 + k, none⟩ = some (.int .u8 l[k].toNat) := hc k _ (u8E_at l k hkl)
  have hf := l[k].toNat_lt
  by_cases h2 : l[k].toNat ≤ 247
  · have HV := hd (num_one hkl h2)
    obtain ⟨f, hfe⟩ : ∃ f, l[k].toNat = f := ⟨_, rfl⟩
    rw [hfe] at HV c0 h2
    have h2i : decide ((f : Int) - 247 < 1) = true := by simp; omega
    clear hr hn hb hc hfe hf
    go_enter Tryz.func85, Tryz.ntmps85
    go_wp2_with fail
    go_quiet (fail)
    go_wp2_with fail
    go_quiet (fail)
    go_wp2_with fail
    go_quiet (fail)
    go_wp2
    go_ret3
    exact ⟨.yes f (k + 1) HV.o (by omega) (by rw [← HN.o]; omega) rfl, by (with_reducible repeat (first | exact Below.refl _ _ | refine bdrewN ?_ _))⟩
  by_cases h3 : n - k - 1 < l[k].toNat - 247
  · have HV := hd (num_short hkl (by omega) (by rw [← hn]; exact h3))
    obtain ⟨f, hfe⟩ : ∃ f, l[k].toNat = f := ⟨_, rfl⟩
    rw [hfe] at c0 h2 h3 hf
    have h2i : decide ((f : Int) - 247 < 1) = false := by simp; omega
    have h3i : decide ((n : Int) - k - 1 < (f : Int) - 247) = true := by simp; omega
    clear hr hn hb hc hfe
    go_enter Tryz.func85, Tryz.ntmps85
    go_wp2_with fail
    go_quiet (fail)
    go_wp2_with fail
    go_quiet (fail)
    go_wp2_with fail
    go_quiet (fail)
    go_wp2
    go_ret3
    exact ⟨.no 14 (.inl rfl) HV.o rfl, by (with_reducible repeat (first | exact Below.refl _ _ | refine bdrewN ?_ _))⟩
  have HV := hd (num_long hkl (by omega) (by rw [← hn]; exact h3))
  have hk1l : k + 1 < l.length := by omega
  have hc1 : w.cell? ⟨g1, o1 + (k + 1), none⟩ = some (.int .u8 ((l.drop (k + 1)).headD 0).toNat) := by
    rw [drop_at hk1l]
    exact hc (k + 1) _ (u8E_at l (k + 1) hk1l)
  obtain ⟨f, hfe⟩ : ∃ f, l[k].toNat = f := ⟨_, rfl⟩
  rw [hfe] at HV c0 h2 h3 hf
  obtain ⟨m, rfl⟩ : ∃ m, f = m + 247 := ⟨f - 247, by omega⟩
  rw [Nat.add_sub_cancel] at HV h3
  have hmi : ((m + 247 : Nat) : Int) - 247 = (m : Int) := by omega
  have h2i : decide ((m : Int) < 1) = false := by simp; omega
  have h3i : decide ((n : Int) - k - 1 < (m : Int)) = false := by simp; omega
  have hm8 : m ≤ 8 := by omega
  have HC := hd (show ∀ j, j < m → ∃ x : UInt8, val ((l.drop (k + 1)).take (j + 1)) = val ((l.drop (k + 1)).take j) * 256 + x.toNat ∧ w.cell? ⟨g1, o1 + (k + (j + 1)), none⟩ = some (.int .u8 x.toNat) from fun j hj => by
    have hj1 : k + 1 + j < l.length := by omega
    have hj2 : j < (l.drop (k + 1)).length := by rw [List.length_drop]; omega
    refine ⟨l[k + 1 + j], ?_, ?_⟩
    · rw [val_take hj2, List.getElem_drop]
    · rw [show k + (j + 1) = k + 1 + j by omega]
      exact hc (k + 1 + j) _ (u8E_at l (k + 1 + j) hj1))
  have HVL := hd (show ∀ j, j ≤ m → val ((l.drop (k + 1)).take j) < 256 ^ j from fun j hj => val_lt (by rw [List.length_take, List.length_drop]; omega))
  obtain ⟨L, hL⟩ : ∃ L, l.drop (k + 1) = L := ⟨_, rfl⟩
  rw [hL] at HC HVL HV hc1
  obtain ⟨hd0, hhd⟩ : ∃ x, L.headD 0 = x := ⟨_, rfl⟩
  rw [hhd] at HV hc1
  have hz := hd0.toNat_lt
  have hkn1 : k + 1 < n := by omega
  have hkn1i : (k : Int) + 1 < (n : Int) := by omega
  have hkn1j : (0 : Int) ≤ (k : Int) + 1 := by omega
  clear hr hn hb hc hfe hL hhd hkl hk1l
  by_cases g1z : hd0.toNat = 0
  · have t1 : ((hd0.toNat : Int) == 0) = true := by simp; omega
    have HV2 := hd (HV.o.trans (if_pos (.inl (UInt8.toNat_inj.1 g1z))))
    clear g1z HV HVL HC
    go_enter Tryz.func85, Tryz.ntmps85
    go_wp2_with fail
    go_quiet (fail)
    go_wp2_with fail
    go_quiet (fail)
    go_wp2_with fail
    go_quiet (fail)
    go_wp2_with fail
    go_quiet (fail)
    go_wp2
    go_ret3
    exact ⟨.no 1 (.inr rfl) HV2.o rfl, by (with_reducible repeat (first | exact Below.refl _ _ | refine bdrewN ?_ _))⟩
  have t1 : ((hd0.toNat : Int) == 0) = false := by simp; omega
  have g1' : ¬ hd0 = 0 := fun e => g1z (by rw [e]; rfl)
  go_enter Tryz.func85, Tryz.ntmps85
  go_wp2_with fail
  go_quiet (fail)
  go_wp2_with fail
  go_quiet (fail)
  go_wp2_with fail
  go_quiet (fail)
  go_wp2_with fail
  go_quiet (fail)
  go_wp2_with fail
  go_loopw [7, 6] (fun i u wr => ∃ (j : Nat) (x : Int), i = .int .i64 ((j + 1 : Nat) : Int) ∧ j ≤ m ∧ u = .int .u64 x ∧ Hd (x = (val (L.take j) : Int)) ∧ Hd (Below w.heap.size w wr)) (fun i _ _ => m + 1 - (intOf i).toNat)
  case atStart => exact ⟨0, 0, rfl, by omega, rfl, hd rfl, hd (by (with_reducible repeat (first | exact Below.refl _ _ | refine bdrewN ?_ _)))⟩
  case round =>
    obtain ⟨j, x, rfl, hj, rfl, HX, HBW⟩ := hrel
    obtain ⟨wi, rfl⟩ : ∃ wi : World, wi = wr := ⟨_, rfl⟩
    have b0' := (HBW.o.cell (p := ⟨g, 0, none⟩) hgl).trans b0
    have b1' := (HBW.o.cell (p := ⟨g, 1, none⟩) hgl).trans b1
    by_cases hlt : j < m
    · obtain ⟨y, HY, hcell⟩ := HC.o j hlt
      replace hcell := (HBW.o.cell (p := ⟨g1, o1 + (k + (j + 1)), none⟩) hg1).trans hcell
      have hx0 : 0 ≤ x := by rw [HX.o]; omega
      have hx56 : x < 72057594037927936 := by
        have h1 := HVL.o j hj
        have h2 : 256 ^ j ≤ 256 ^ 7 := Nat.pow_le_pow_right (by decide) (by omega)
        rw [HX.o]
        have h3 : (256 : Nat) ^ 7 = 72057594037927936 := by decide
        omega
      have hy := y.toNat_lt
      have HOR := hd (orU x (y.toNat : Int) hx0 (by omega) (by omega) (by omega))
      have HYY := hd HY
      clear HY
      obtain ⟨i, hi⟩ : ∃ i : Nat, j + 1 = i := ⟨_, rfl⟩
      rw [hi] at hcell ⊢
      have him : (i : Int) ≤ (m : Int) := by omega
      have hkin : k + i < n := by omega
      have hkini : (k : Int) + (i : Int) < (n : Int) := by omega
      have hki0 : (0 : Int) ≤ (k : Int) + (i : Int) := by omega
      have hkw : IntKind.i64.wrap ((k : Int) + (i : Int)) = (k : Int) + (i : Int) := IntWalk.i64_in _ (by omega)
      have hkt : ((k : Int) + (i : Int)).toNat = k + i := by omega
      have HI := hd hi
      clear hi
      go_wp2_with fail
      go_quiet (fail)
      go_wp2_with fail
      go_roundw
      case rel => exact ⟨j + 1, x * 256 + (y.toNat : Int), by rw [HI.o]; go_num, by omega, by first | rfl | (rw [HOR.o]), hd (by rw [HYY.o, HX.o]; push_cast; rfl), hd (bdrewN HBW.o _)⟩
      case measure => have := HI.o; simp [intOf]; omega
    · obtain rfl : j = m := by omega
      have hvl := HVL.o j (Nat.le_refl _)
      have hvl8 : val (L.take j) < 18446744073709551616 := by
        have h2 : 256 ^ j ≤ 256 ^ 8 := Nat.pow_le_pow_right (by decide) (by omega)
        have h3 : (256 : Nat) ^ 8 = 18446744073709551616 := by decide
        omega
      obtain ⟨v, hv⟩ : ∃ v, val (L.take j) = v := ⟨_, rfl⟩
      rw [hv] at HX HV
      obtain rfl : x = (v : Int) := HX.o
      have hlim : ((j + 1 : Nat) : Int) ≤ (j : Int) → False := by omega
      have hlimd : decide (((j : Int) + 1) ≤ (j : Int)) = false := decide_eq_false (by omega)
      by_cases g2 : v ≤ 247
      · have t2 : decide ((v : Int) < 248) = true := by simp; omega
        have HV2 := hd (HV.o.trans (if_pos (.inr (.inl g2))))
        clear g1z g1' hv HV hvl HVL HC
        go_wp2
        go_ret3
        exact ⟨.no 1 (.inr rfl) HV2.o rfl, HBW.o⟩
      · have t2 : decide ((v : Int) < 248) = false := by simp; omega
        by_cases g3 : 9223372036854775808 ≤ v
        · have t3 : decide ((9223372036854775807 : Int) < (v : Int)) = true := by simp; omega
          have HV2 := hd (HV.o.trans (if_pos (.inr (.inr (by have : (2 : Nat) ^ 63 = 9223372036854775808 := by decide
                                                             omega)))))
          clear g1z g1' hv HV hvl HVL HC
          go_wp2
          go_ret3
          exact ⟨.no 1 (.inr rfl) HV2.o rfl, HBW.o⟩
        · have t3 : decide ((9223372036854775807 : Int) < (v : Int)) = false := by simp; omega
          have HV2 := hd (HV.o.trans (if_neg (fun h => by
            have : (2 : Nat) ^ 63 = 9223372036854775808 := by decide
            rcases h with h | h | h
            · exact g1' h
            · exact g2 h
            · omega)))
          clear g1z g1' hv HV hvl HVL HC
          go_wp2_with fail
          go_quiet (fail)
          go_wp2
          go_ret3
          exact ⟨.yes v (k + 1 + j) HV2.o (by omega) (by rw [← HN.o]; omega) rfl, bdrewN HBW.o _⟩

end Go.Proofs.YtogjokofmfpmgaaGreatDoor
namespace Go.Proofs.YtogjokofmfpmgaaGreatDoor
open Go.RowKit

set_option maxRecDepth 100000 in
set_option maxHeartbeats 4000000 in
theorem kNum_calls (w : World) (B g : Nat) (l : List UInt8) (st : Option (List UInt8)) (h : RkR w B g l st) (hl : l.length ≤ 1000000) :
    Calls Tryz.prog 64 #[.pointer (some ⟨g, 0, none⟩)] w fun e w' => ∃ v, e = .returned (.int .i64 v) ∧ NumOk st v ∧ RkR w' B g l (numS st) ∧ Chg (One g) w w' := by
  obtain ⟨A, n, c, k, e, hb, ho, hnc, hn, hk, hB, hst⟩ := h.o
  have H := hd h
  have b2 := hb.at_ 2 rfl
  have hlt := hb.lt
  rcases hst with ⟨rfl, rfl⟩ | ⟨he, rfl⟩
  · have C1 := hd (rlook_calls w g A n c l k 0 hb (ho.rds (by omega)) hnc hn (by omega) hk)
    have HB := hd hb
    have HO := hd ho
    have HN := hd hn
    clear hb ho hn
    go_enter Tryz.func64, Tryz.ntmps64
    go_wp2_with fail
    refine C1.o.mono ?_
    rintro e w1 ⟨hh, hbw⟩
    have hb1 := HB.o.below hbw hlt
    have ho1 := HO.o.below (hbw.mono (by omega) : Below B w w1)
    have q1 := hb1.at_ 1 rfl
    have q2 := hb1.at_ 2 rfl
    have f1 := hb1.frozen 1
    have f2 := hb1.frozen 2
    have hlt1 := hb1.lt
    have HB1 := hd hb1
    have HO1 := hd ho1
    have HC1 := hd (Chg.of_below (One g) hbw)
    clear hb1 ho1 hbw
    rcases hh with ⟨x, hx, hv, rfl⟩ | ⟨v, q, hv, hq, hq2, rfl⟩
    · have HV := hd hv
      have hx0 : (x != 0) = true := by rcases hx with rfl | rfl <;> rfl
      have HX := hd hx
      clear hv hx
      go_wp2
      go_ret
      refine ⟨0, rfl, ⟨by decide, by decide, fun p hp => ?_⟩, RkR.er HB1.o HO1.o hnc HN.o hk hB x ?_ ?_, HC1.o.setCell (p := ⟨g, 2, none⟩) (.inl rfl) _⟩
      · rw [Option.bind_some, HV.o] at hp; cases hp
      · rcases HX.o with rfl | rfl <;> decide
      · rw [numS, Option.bind_some, HV.o]; rfl
    · have HV := hd hv
      have hbd := numAt_bd hv
      rw [← HN.o] at hq2
      clear hv
      go_wp2
      go_ret
      refine ⟨v, rfl, ⟨hbd.1, hbd.2, fun p hp => ?_⟩, RkR.at_ HB1.o HO1.o hnc HN.o hB q hq2 rfl ?_, HC1.o.setCell (p := ⟨g, 1, none⟩) (.inl rfl) _⟩
      · rw [Option.bind_some, HV.o] at hp; injection hp with hp; rw [← hp]
      · rw [numS, Option.bind_some, HV.o]; rfl
  · have he0 : (e != 0) = true := by simpa using he
    clear hb ho hn he
    go_enter Tryz.func64, Tryz.ntmps64
    go_wp2
    go_ret
    exact ⟨0, rfl, ⟨by decide, by decide, fun p hp => by cases hp⟩, H.o, Chg.refl _ _⟩

set_option maxRecDepth 100000 in
set_option maxHeartbeats 8000000 in
theorem kText_calls (w : World) (B g : Nat) (l : List UInt8) (st : Option (List UInt8)) (most : Nat) (h : RkR w B g l st) (hl : l.length ≤ 1000000) (hm : most ≤ 1000000) :
    Calls Tryz.prog 60 #[.pointer (some ⟨g, 0, none⟩), .int .i64 most] w fun e w' => ∃ s, e = .returned (.string s) ∧ TextOk most st s ∧ RkR w' B g l (textS most st) ∧ Chg (One g) w w' := by
  obtain ⟨A, n, c, k, e, hb, ho, hnc, hn, hk, hB, hst⟩ := h.o
  have H := hd h
  have b2 := hb.at_ 2 rfl
  have hlt := hb.lt
  rcases hst with ⟨rfl, rfl⟩ | ⟨he, rfl⟩
  · have C1 := hd (rlook_calls w g A n c l k 0 hb (ho.rds (by omega)) hnc hn (by omega) hk)
    have HB := hd hb
    have HO := hd ho
    have HN := hd hn
    have hnl : n ≤ 1000000 := by omega
    clear hb ho hn
    go_enter Tryz.func60, Tryz.ntmps60
    go_wp2_with fail
    refine C1.o.mono ?_
    rintro e w1 ⟨hh, hbw⟩
    have hb1 := HB.o.below hbw hlt
    have ho1 := HO.o.below (hbw.mono (by omega) : Below B w w1)
    have q0 := hb1.at_ 0 rfl
    have q1 := hb1.at_ 1 rfl
    have q2 := hb1.at_ 2 rfl
    have f1 := hb1.frozen 1
    have f2 := hb1.frozen 2
    have hlt1 := hb1.lt
    have HB1 := hd hb1
    have HO1 := hd ho1
    have HC1 := hd (Chg.of_below (One g) hbw)
    clear hb1 ho1 hbw b2
    rcases hh with ⟨x, hx, hv, rfl⟩ | ⟨v, q, hv, hq, hq2, rfl⟩
    · have HV := hd (textAt_none (most := most) hv)
      have hx0 : (x != 0) = true := by rcases hx with rfl | rfl <;> rfl
      have HX := hd hx
      clear hv hx
      go_wp2
      go_ret
      refine ⟨⟨#[]⟩, rfl, ⟨Nat.zero_le _, fun p hp => ?_⟩, RkR.er HB1.o HO1.o hnc HN.o hk hB x ?_ ?_, HC1.o.setCell (p := ⟨g, 2, none⟩) (.inl rfl) _⟩
      · rw [Option.bind_some, HV.o] at hp; cases hp
      · rcases HX.o with rfl | rfl <;> decide
      · rw [textS, Option.bind_some, HV.o]; rfl
    · have hbd := numAt_bd hv
      have hql : (l.drop q).length = n - q := by rw [List.length_drop, HN.o]
      rw [← HN.o] at hq2
      have hqi : (q : Int) ≤ (n : Int) := by omega
      by_cases h1 : (n : Int) - q < v
      · have HV := hd (textAt_long (most := most) hv (.inl (by rw [hql]; omega)))
        have h1i : decide ((n : Int) - q < v) = true := by simpa using h1
        clear hv hql hbd
        go_wp2
        go_ret
        refine ⟨⟨#[]⟩, rfl, ⟨Nat.zero_le _, fun p hp => ?_⟩, RkR.er HB1.o HO1.o hnc HN.o hk hB 14 (by decide) ?_, HC1.o.setCell (p := ⟨g, 2, none⟩) (.inl rfl) _⟩
        · rw [Option.bind_some, HV.o] at hp; cases hp
        · rw [textS, Option.bind_some, HV.o]; rfl
      · have h1i : decide ((n : Int) - q < v) = false := by simpa using h1
        by_cases h2 : (most : Int) < v
        · have HV := hd (textAt_long (most := most) hv (.inr h2))
          have h2i : decide ((most : Int) < v) = true := by simpa using h2
          clear hv hql hbd
          go_wp2
          go_ret
          refine ⟨⟨#[]⟩, rfl, ⟨Nat.zero_le _, fun p hp => ?_⟩, RkR.er HB1.o HO1.o hnc HN.o hk hB 2 (by decide) ?_, HC1.o.setCell (p := ⟨g, 2, none⟩) (.inl rfl) _⟩
          · rw [Option.bind_some, HV.o] at hp; cases hp
          · rw [textS, Option.bind_some, HV.o]; rfl
        · have h2i : decide ((most : Int) < v) = false := by simpa using h2
          have HV := hd (textAt_take (most := most) hv (fun h => h.elim (fun h => by rw [hql] at h; omega) h2))
          obtain ⟨m, rfl⟩ : ∃ m : Nat, v = m := ⟨v.toNat, by omega⟩
          have hmq : q + m ≤ n := by omega
          have hmm : m ≤ most := by omega
          have hmd : decide (most < m) = false := by simp; omega
          obtain ⟨t, ht⟩ : ∃ t, q + m = t := ⟨_, rfl⟩
          rw [ht] at hmq
          obtain ⟨g1, o1, hA, hg1, hcl⟩ := HO1.o.at_ (by omega : 0 < n)
          subst hA
          have hgg : g1 ≠ g := by omega
          obtain ⟨w2, hw2⟩ : ∃ w2, w2 = w1.setCell ⟨g, 1, none⟩ (.int .i64 (t : Int)) := ⟨_, rfl⟩
          have hB2 : Blk w2 g 96 #[.slice (some ⟨g1, o1, none⟩) n c, .int .i64 (t : Int), .int .i64 0] := by rw [hw2]; exact HB1.o.set_ 1 _
          have hO2 : Old w2 B (some ⟨g1, o1, none⟩) n (u8E l) := by rw [hw2]; exact HO1.o.below ((Below.refl B w1).setCell (p := ⟨g, 1, none⟩) hB _)
          have hCh := hd (show Chg (One g) w w2 by rw [hw2]; exact HC1.o.setCell (p := ⟨g, 1, none⟩) (.inl rfl) _)
          have HW2 := hd hw2
          have d0 := hB2.at_ 0 rfl
          have d1 := hB2.at_ 1 rfl
          have hg2 : g1 < w2.heap.size := by have := hB2.lt; omega
          have hcell := fun j (hj : q + j < n) => show w2.cell? ⟨g1, o1 + (q + j), none⟩ = _ from by
            obtain ⟨g3, o3, hA3, _, hc3⟩ := hO2.at_ (by omega : 0 < n)
            injection hA3 with hA3
            injection hA3 with e1 e2
            subst e1 e2
            exact hc3 (q + j) _ (u8E_at l (q + j) (by rw [← HN.o]; exact hj))
          have hrd : ∀ B', (0 < m → B' = some ⟨g1, o1 + q, none⟩) → Rds w2 B' m 1 (u8E ((l.drop q).take m)) := fun B' hB' => ⟨by rw [u8E_len, List.length_take, hql]; omega, fun h0 => ⟨g1, o1 + q, hB' h0, hg2, fun j u hu => by
            have hj : j < ((l.drop q).take m).length := by
              have := (List.getElem?_eq_some_iff.1 hu).1
              rwa [u8E_len] at this
            have hj2 : j < m ∧ q + j < n := by rw [List.length_take, hql] at hj; omega
            rw [u8E_at _ j hj] at hu
            rw [Nat.add_assoc, hcell j hj2.2, ← hu, List.getElem_take, List.getElem_drop]⟩⟩
          have hcv := fun B' (hB' : 0 < m → B' = some ⟨g1, o1 + q, none⟩) c' k' => conv_back (P := Tryz.prog) (w2.drewN k') 27 9 5 Tryz.underlying27 Tryz.underlying5 Tryz.underlying9 B' m c' ((l.drop q).take m) (by rw [List.length_take, hql]; omega) ((hrd B' hB').drewN k')
          have hfin : Hd (RkR w2 B g l (textS most (some (l.drop k)))) := hd ⟨some ⟨g1, o1, none⟩, n, c, t, 0, hB2, hO2, hnc, HN.o, hmq, hB, .inl ⟨rfl, by rw [textS, Option.bind_some, HV.o, Int.toNat_natCast]; show some _ = _; rw [List.drop_drop, ht]⟩⟩
          have hts : Hd (TextOk most (some (l.drop k)) (bs ((l.drop q).take m))) := hd ⟨by rw [bs_size, List.length_take, hql]; omega, fun p hp => by rw [Option.bind_some, HV.o] at hp; injection hp with hp; rw [← hp]; rfl⟩
          have hsum : (q : Int) + (m : Int) = (t : Int) := by omega
          have hqm : (q : Int) ≤ (t : Int) := by omega
          obtain ⟨b, hbb⟩ : ∃ b, bs ((l.drop q).take m) = b := ⟨_, rfl⟩
          rw [hbb] at hcv hts
          clear hv hql hcl hrd hcell hB2 hO2 hbb hw2
          have htq : t - q = m := by omega
          have htn : (t : Int) ≤ (n : Int) := by omega
          by_cases hcq : c = q
          · have hm0 : m = 0 := by omega
            subst hm0
            obtain rfl : q = t := by omega
            have hcv0 := hcv (some ⟨g1, o1, none⟩) (fun h => by omega)
            clear hcv ht htq hsum
            go_wp2_with fail
            rw [← HW2.o]
            go_quiet (fail)
            go_wp2
            go_ret
            exact ⟨b, rfl, hts.o, hfin.o.below (bdrewN (Below.refl _ _) nq), hCh.o.drewN nq⟩
          · have hcv0 := hcv (some ⟨g1, o1 + q, none⟩) (fun _ => rfl)
            clear hcv ht
            go_wp2_with fail
            rw [← HW2.o]
            go_quiet (fail)
            go_wp2
            go_ret
            exact ⟨b, rfl, hts.o, hfin.o.below (bdrewN (Below.refl _ _) nq), hCh.o.drewN nq⟩
  · have he0 : (e != 0) = true := by simpa using he
    clear hb ho hn he
    go_enter Tryz.func60, Tryz.ntmps60
    go_wp2
    go_ret
    exact ⟨⟨#[]⟩, rfl, ⟨Nat.zero_le _, fun p hp => by cases hp⟩, H.o, Chg.refl _ _⟩

theorem kleft_calls (w : World) (B g : Nat) (l r : List UInt8) (h : RkR w B g l (some r)) (hl : l.length ≤ 1000000) :
    Calls Tryz.prog 65 #[.pointer (some ⟨g, 0, none⟩)] w fun e w' => e = .returned (.int .i64 r.length) ∧ Below w.heap.size w w' := by
  obtain ⟨A, n, c, k, e, hb, ho, hnc, hn, hk, hB, hst⟩ := h.o
  have b0 := hb.at_ 0 rfl
  have b1 := hb.at_ 1 rfl
  have HR : Hd ((n : Int) - (k : Int) = (r.length : Int)) := hd (by
    rcases hst with ⟨_, h1⟩ | ⟨_, h1⟩
    · injection h1 with h1
      rw [h1, List.length_drop]; omega
    · cases h1)
  have hn6 : n ≤ 1000000 := by omega
  clear hb ho hn hst
  go_enter Tryz.func65, Tryz.ntmps65
  go_wp2_with fail
  go_quiet (fail)
  go_wp2
  go_ret
  exact ⟨ret_int HR.o, bdrewN (Below.refl _ _) _⟩

set_option maxHeartbeats 4000000 in
theorem ksmall_calls (w : World) (B g : Nat) (l : List UInt8) (st : Option (List UInt8)) (h : RkR w B g l st) (hl : l.length ≤ 1000000) :
    Calls Tryz.prog 62 #[.pointer (some ⟨g, 0, none⟩)] w fun e w' => ∃ v, e = .returned (.int .i64 v) ∧ SmallOk st v ∧ RkR w' B g l (smallS st) ∧ Chg (One g) w w' := by
  have C1 := hd (kNum_calls w B g l st h hl)
  clear h
  go_enter Tryz.func62, Tryz.ntmps62
  go_wp2_with fail
  refine C1.o.mono ?_
  rintro e w1 ⟨v, rfl, hv, hr, hc⟩
  have HV := hd hv
  have HR := hd hr
  have HC := hd hc
  obtain ⟨A, n, c, k, e, hb, ho, hnc, hn, hk, hB, hst⟩ := hr.o
  have b2 := hb.at_ 2 rfl
  have f2 := hb.frozen 2
  have hlt := hb.lt
  have HE := hd (fun (hbig : 2147483647 < v) => show RkR (w1.setCell ⟨g, 2, none⟩ (.int .i64 1)) B g l (smallS st) from RkR.er hb ho hnc hn hk hB 1 (by decide) (smallS_big hv hbig))
  clear hv hr hc hb ho hn hst
  by_cases hbig : 2147483647 < v
  · have hbi : decide ((2147483647 : Int) < v) = true := by simpa using hbig
    have HB := hd (smallS_big HV.o hbig)
    go_wp2
    go_ret
    refine ⟨0, rfl, ⟨⟨by decide, by decide⟩, fun p hp => ?_⟩, HE.o hbig, HC.o.setCell (p := ⟨g, 2, none⟩) (.inl rfl) _⟩
    exfalso
    have h := HB.o
    unfold smallS at h
    rw [hp] at h
    cases h
  · have hbi : decide ((2147483647 : Int) < v) = false := by simpa using hbig
    clear HE
    go_wp2
    go_ret
    exact ⟨v, rfl, small_of HV.o, by rw [smallS_ok HV.o (by omega)]; exact HR.o, HC.o⟩

/-- A mark that was read. -/
def mkS (st : Option (List UInt8)) (v : Int) : Option (List UInt8) := if 1 < v then none else numS st
theorem mkS_mark {st : Option (List UInt8)} {v : Int} (h : NumOk st v) : mkS st v = markS st v := by
  unfold mkS markS
  by_cases h1 : 1 < v
  · rw [if_pos h1, if_pos h1]
  · rw [if_neg h1, if_neg h1, smallS_ok h (by omega)]
set_option maxHeartbeats 4000000 in
theorem kmark_calls (w : World) (B g : Nat) (l : List UInt8) (st : Option (List UInt8)) (h : RkR w B g l st) (hl : l.length ≤ 1000000) :
    Calls Tryz.prog 63 #[.pointer (some ⟨g, 0, none⟩)] w fun e w' => ∃ v, e = .returned (.bool (v == 1)) ∧ NumOk st v ∧ RkR w' B g l (mkS st v) ∧ Chg (One g) w w' := by
  have C1 := hd (kNum_calls w B g l st h hl)
  clear h
  go_enter Tryz.func63, Tryz.ntmps63
  go_wp2_with fail
  refine C1.o.mono ?_
  rintro e w1 ⟨v, rfl, hv, hr, hc⟩
  have HV := hd hv
  have HR := hd hr
  have HC := hd hc
  obtain ⟨A, n, c, k, e, hb, ho, hnc, hn, hk, hB, hst⟩ := hr.o
  have b2 := hb.at_ 2 rfl
  have f2 := hb.frozen 2
  have hlt := hb.lt
  have HE := hd (fun (hbig : 1 < v) => show RkR (w1.setCell ⟨g, 2, none⟩ (.int .i64 1)) B g l (mkS st v) from RkR.er hb ho hnc hn hk hB 1 (by decide) (by unfold mkS; rw [if_pos hbig]))
  have HS := hd hst
  clear hv hr hc hb ho hn hst
  by_cases hbig : 1 < v
  · have hbi : decide ((1 : Int) < v) = true := by simpa using hbig
    have HM := hd (show mkS st v = none by unfold mkS; rw [if_pos hbig])
    have HNE := hd (HE.o hbig)
    by_cases he : e = 0
    · subst he
      clear HE
      go_wp2
      go_ret
      exact ⟨v, rfl, HV.o, HNE.o, HC.o.setCell (p := ⟨g, 2, none⟩) (.inl rfl) _⟩
    · have hed : (e == 0) = false := by simpa using he
      have HD := hd (show numS st = none by rcases HS.o with ⟨h1, _⟩ | ⟨_, h2⟩; exact absurd h1 he; exact h2)
      clear HE he
      go_wp2
      go_ret
      exact ⟨v, rfl, HV.o, by rw [HM.o, ← HD.o]; exact HR.o, HC.o⟩
  · have hbi : decide ((1 : Int) < v) = false := by simpa using hbig
    have HM := hd (show mkS st v = numS st by unfold mkS; rw [if_neg hbig])
    clear HE
    by_cases he : e = 0
    · subst he
      go_wp2
      go_ret
      exact ⟨v, rfl, HV.o, by rw [HM.o]; exact HR.o, HC.o⟩
    · have hed : (e == 0) = false := by simpa using he
      clear he
      go_wp2
      go_ret
      exact ⟨v, rfl, HV.o, by rw [HM.o]; exact HR.o, HC.o⟩

set_option maxRecDepth 100000 in
set_option maxHeartbeats 4000000 in
theorem kcond_calls (w : World) (B g : Nat) (l : List UInt8) (st : Option (List UInt8)) (h : RkR w B g l st) (hl : l.length ≤ 1000000) :
    Calls Tryz.prog 61 #[.pointer (some ⟨g, 0, none⟩)] w fun e w' => ∃ ck cv : Int, e = .returned (.agg #[.int .i64 ck, .int .i64 cv]) ∧ CondOk st ck cv ∧ RkR w' B g l (condS st) ∧ Chg (One g) w w' := by
  obtain ⟨X, hX⟩ : ∃ X, X = w.alloc (.cells #[.int .i64 0, .int .i64 0] 23) := ⟨_, rfl⟩
  have HBX := hd (show Blk X w.heap.size 23 #[.int .i64 0, .int .i64 0] by rw [hX]; exact Blk.new _ _ _)
  have HCX := hd (show Chg (One g) w X by rw [hX]; exact (Chg.refl _ _).alloc _)
  have hRX : RkR X B g l st := by rw [hX]; exact h.alloc _
  have C1 := hd (ksmall_calls X B g l st hRX hl)
  have hxl := h.lt
  have HX := hd hX
  clear h hX hRX
  go_enter Tryz.func61, Tryz.ntmps61
  go_wp2_with fail
  rw [← HX.o]
  refine C1.o.mono ?_
  rintro e w1 ⟨k, rfl, hk, hr1, hc1⟩
  have HK := hd hk
  have HC1 := hd (HCX.o.trans hc1 (fun k hk => .inl hk))
  have hb1 := HBX.o.chg hc1 (fun h => by have h : w.heap.size = g := h; omega)
  have HB1 := hd hb1
  have C2 := hd (kNum_calls w1 B g l (smallS st) hr1 hl)
  clear hr1 hk hc1 hb1
  go_wp2_with fail
  refine C2.o.mono ?_
  rintro e w2 ⟨v, rfl, hv, hr2, hc2⟩
  have hb2 := HB1.o.chg hc2 (fun h => by have h : w.heap.size = g := h; omega)
  have q0 := hb2.at_ 0 rfl
  have q1 := hb2.at_ 1 rfl
  have z0 := hb2.frozen 0
  have z1 := hb2.frozen 1
  have hl2 := hb2.lt
  have HB2 := hd hb2
  have HR2 := hd hr2
  have HV := hd hv
  have HC2 := hd (HC1.o.trans hc2 (fun k hk => .inl hk))
  clear hb2 hr2 hc2 hv
  go_wp2
  (try simp only [Exit.inBlock, Exit.then])
  refine bodyPost_ret (results_cell_row rfl _ _ _ _ _ _ _ rfl ((HB2.o.set_ 0 _).set_ 1 _) rfl rfl rfl) rfl ?_
  obtain ⟨o1, o2⟩ := cond_of HK.o HV.o
  refine ⟨k, v, rfl, o1, ?_, ?_⟩
  · rw [o2]
    exact (HR2.o.far HB2.o (by decide) (by omega) _).far (HB2.o.set_ 0 _) (by decide) (by omega) _
  · exact (HC2.o.setCell (.inr (Nat.le_refl _)) _).setCell (.inr (Nat.le_refl _)) _

end Go.Proofs.YtogjokofmfpmgaaGreatDoor
namespace Go.Proofs.YtogjokofmfpmgaaGreatDoor
open Go.RowKit

/-- What the two switches read. -/
structure First (k : Int) (l : List UInt8) (s0 s1 : ByteArray) : Prop where
  a : s0.size ≤ 20000 ∧ stOk (oT (hT k)) (some l) s0.data.toList
  b : s1.size ≤ 20000 ∧ stOk (oT (hC k)) (stS (oT (hT k)) (some l)) s1.data.toList
def st2 (k : Int) (l : List UInt8) : Option (List UInt8) := stS (oT (hC k)) (stS (oT (hT k)) (some l))
def st9 (k : Int) (s : Option (List UInt8)) : Option (List UInt8) := stS (oS (hTi k)) (stS (oS (hM k)) (stS (oN (hTk k)) (stS (oO (hO k)) (stS (oC (hCn k)) (stS (oT (hCd k)) (stS (oT (hU k)) s))))))
structure Second (k : Int) (s : Option (List UInt8)) (s2 s3 : ByteArray) (ck cv : Int) (LO : List OpV) (v6 v7 v8 : Int) : Prop where
  c : s2.size ≤ 20000 ∧ stOk (oT (hU k)) s s2.data.toList
  d : s3.size ≤ 20000 ∧ stOk (oT (hCd k)) (stS (oT (hU k)) s) s3.data.toList
  e : stOk (oC (hCn k)) (stS (oT (hCd k)) (stS (oT (hU k)) s)) (ck, cv)
  f : stOk (oO (hO k)) (stS (oC (hCn k)) (stS (oT (hCd k)) (stS (oT (hU k)) s))) LO ∧ LO.length ≤ 16 ∧ ∀ o ∈ LO, OpB o
  g : stOk (oN (hTk k)) (stS (oO (hO k)) (stS (oC (hCn k)) (stS (oT (hCd k)) (stS (oT (hU k)) s)))) v6
  h : stOk (oS (hM k)) (stS (oN (hTk k)) (stS (oO (hO k)) (stS (oC (hCn k)) (stS (oT (hCd k)) (stS (oT (hU k)) s))))) v7
  i : stOk (oS (hTi k)) (stS (oS (hM k)) (stS (oN (hTk k)) (stS (oO (hO k)) (stS (oC (hCn k)) (stS (oT (hCd k)) (stS (oT (hU k)) s)))))) v8
theorem skT (s : Option (List UInt8)) : stS (oT false) s = s := (st_skipT s).1.symm
theorem skC (s : Option (List UInt8)) : stS (oC false) s = s := (st_skipC s).1.symm
theorem skO (s : Option (List UInt8)) : stS (oO false) s = s := (st_skipO s).1.symm
theorem skN (s : Option (List UInt8)) : stS (oN false) s = s := (st_skipN s).1.symm
theorem skS (s : Option (List UInt8)) : stS (oS false) s = s := (st_skipS s).1.symm
theorem kinds1 {k : Int} (h : isK k = true) : k = 1 ∨ k = 10 ∨ k = 11 ∨ (k ≠ 1 ∧ k ≠ 10 ∧ k ≠ 11) := by omega
theorem kinds2 {k : Int} (h : isK k = true) (a : k ≠ 1) (b : k ≠ 10) (c : k ≠ 11) : hT k = false ∧ hC k = true := by
  have := kind_or h
  unfold hT hC
  simp
  omega
theorem kinds3 {k : Int} (h : isK k = true) : k = 4 ∨ k = 5 ∨ k = 6 ∨ k = 7 ∨ k = 8 ∨ k = 9 ∨ (k ≤ 3 ∨ 10 ≤ k) := by omega
theorem First.two {k : Int} (h : hT k = false ∧ hC k = true) {l : List UInt8} {s1 : ByteArray} (hv : TextOk 20000 (some l) s1) : First k l ⟨#[]⟩ s1 := by
  refine ⟨⟨by decide, by rw [h.1]; exact (st_skipT _).2⟩, ?_⟩
  rw [h.1, h.2, skT]
  exact hv
theorem First.st {k : Int} (h : hT k = false ∧ hC k = true) {l : List UInt8} : st2 k l = textS 20000 (some l) := by
  unfold st2
  rw [h.1, h.2, skT]
  rfl
theorem no3 {k : Int} (h : k ≤ 3 ∨ 10 ≤ k) (s : Option (List UInt8)) : Second k s ⟨#[]⟩ ⟨#[]⟩ 0 0 [] 0 0 0 ∧ st9 k s = s := by
  have a : hU k = false := by unfold hU; simp; omega
  have b : hCd k = false := by unfold hCd; simp; omega
  have c : hCn k = false := by unfold hCn; simp; omega
  have d : hO k = false := by unfold hO; simp; omega
  have e : hTk k = false := by unfold hTk; simp; omega
  have f : hM k = false := by unfold hM; simp; omega
  have g : hTi k = false := by unfold hTi; simp; omega
  refine ⟨⟨?_, ?_, ?_, ?_, ?_, ?_, ?_⟩, ?_⟩
  · rw [a]; exact ⟨by decide, (st_skipT _).2⟩
  · rw [b]; exact ⟨by decide, (st_skipT _).2⟩
  · rw [c]; exact (st_skipC _).2
  · rw [d]; exact ⟨(st_skipO _).2, by decide, fun o ho => by cases ho⟩
  · rw [e]; exact (st_skipN _).2
  · rw [f]; exact (st_skipS _).2
  · rw [g]; exact (st_skipS _).2
  · unfold st9
    rw [a, b, c, d, e, f, g, skT, skT, skC, skO, skN, skS, skS]
theorem raw_two {k : Int} {l : List UInt8} {ST : Option (List UInt8)} {s0 s1 s2 s3 : ByteArray} {ck cv : Int} {LO : List OpV} {v6 v7 v8 : Int} (hs : st2 k l = ST) (h1 : First k l s0 s1) (h2 : Second k ST s2 s3 ck cv LO v6 v7 v8) :
    RawIs k l (st9 k ST) ⟨k, s0.data.toList, s1.data.toList, s2.data.toList, s3.data.toList, ck, cv, LO, v6, v7, v8⟩ := by
  subst hs
  exact raw_chain (k := k) (l := l) (cc := (ck, cv)) rfl h1.a.2 rfl h1.b.2 rfl h2.c.2 rfl h2.d.2 rfl h2.e rfl h2.f.1 rfl h2.g rfl h2.h rfl h2.i
theorem size_two {k : Int} {l : List UInt8} {ST : Option (List UInt8)} {s0 s1 s2 s3 : ByteArray} {ck cv : Int} {LO : List OpV} {v6 v7 v8 : Int} (h1 : First k l s0 s1) (h2 : Second k ST s2 s3 ck cv LO v6 v7 v8) :
    RqS ⟨k, s0.data.toList, s1.data.toList, s2.data.toList, s3.data.toList, ck, cv, LO, v6, v7, v8⟩ := by
  have e : ∀ {s : ByteArray}, s.size ≤ 20000 → s.data.toList.length ≤ 1000000 := fun h => by rw [← ba_size]; omega
  refine ⟨e h1.a.1, e h1.b.1, e h2.c.1, e h2.d.1, ?_, fun o ho => ?_⟩
  · show LO.length ≤ _
    have := h2.f.2.1
    omega
  · have := h2.f.2.2 o ho
    exact ⟨Nat.le_trans this.1 (by decide), Nat.le_trans this.2.1 (by decide)⟩
theorem flU_4 : hU 4 = true := by decide
theorem flC_4 : hCd 4 = true := by decide
theorem flN_4 : hCn 4 = true := by decide
theorem flO_4 : hO 4 = false := by decide
theorem flT_4 : hTk 4 = false := by decide
theorem flM_4 : hM 4 = false := by decide
theorem flI_4 : hTi 4 = false := by decide
theorem flU_5 : hU 5 = true := by decide
theorem flC_5 : hCd 5 = false := by decide
theorem flN_5 : hCn 5 = true := by decide
theorem flO_5 : hO 5 = false := by decide
theorem flT_5 : hTk 5 = false := by decide
theorem flM_5 : hM 5 = false := by decide
theorem flI_5 : hTi 5 = false := by decide
theorem flU_6 : hU 6 = true := by decide
theorem flC_6 : hCd 6 = false := by decide
theorem flN_6 : hCn 6 = false := by decide
theorem flO_6 : hO 6 = false := by decide
theorem flT_6 : hTk 6 = false := by decide
theorem flM_6 : hM 6 = false := by decide
theorem flI_6 : hTi 6 = false := by decide
theorem flU_7 : hU 7 = false := by decide
theorem flC_7 : hCd 7 = false := by decide
theorem flN_7 : hCn 7 = false := by decide
theorem flO_7 : hO 7 = true := by decide
theorem flT_7 : hTk 7 = false := by decide
theorem flM_7 : hM 7 = false := by decide
theorem flI_7 : hTi 7 = false := by decide
theorem flU_8 : hU 8 = false := by decide
theorem flC_8 : hCd 8 = false := by decide
theorem flN_8 : hCn 8 = false := by decide
theorem flO_8 : hO 8 = false := by decide
theorem flT_8 : hTk 8 = true := by decide
theorem flM_8 : hM 8 = true := by decide
theorem flI_8 : hTi 8 = false := by decide
theorem flU_9 : hU 9 = false := by decide
theorem flC_9 : hCd 9 = false := by decide
theorem flN_9 : hCn 9 = false := by decide
theorem flO_9 : hO 9 = false := by decide
theorem flT_9 : hTk 9 = true := by decide
theorem flM_9 : hM 9 = false := by decide
theorem flI_9 : hTi 9 = true := by decide

theorem RkR.off {w : World} {B g : Nat} {l : List UInt8} {st : Option (List UInt8)} (h : RkR w B g l st) {b : Nat} {t : TypeId} {cs : Array Value} (hb : Blk w b t cs) (h1 : 96 ≠ t) : ¬ One g b := by
  obtain ⟨_, _, _, _, _, hg, _⟩ := h.o
  intro hk
  have hk : b = g := hk
  subst hk
  exact hg.ne_ hb h1 rfl
theorem RkR.row {w w' : World} {B g : Nat} {l : List UInt8} {st : Option (List UInt8)} (h : RkR w B g l st) {S : Nat → Prop} {e : TypeId} {size n c : Nat} {A : Option Addr} {xs : List Value} (hr : Row w S e size A n c xs) (ht : e ≠ 96) (hc : Chg (One g) w w') : Row w' S e size A n c xs := by
  obtain ⟨_, _, _, _, _, hg, _⟩ := h.o
  exact hr.keep (fun a ha => hc.block _ (hr.lt ha) (fun hk => hr.ne_blk hg ht a ha hk))
theorem Row.blk {w w' : World} {e : TypeId} {size n c : Nat} {A : Option Addr} {xs : List Value} (hr : Row w (Of A) e size A n c xs) {b : Nat} {t : TypeId} {cs : Array Value} (hb : Blk w b t cs) (ht : e ≠ t) (hc : Chg (Of A) w w') : Blk w' b t cs :=
  hb.chg hc (fun hk => by
    cases A with
    | none => exact Of.none hk
    | some a => exact hr.ne_blk hb ht a rfl hk.some_.symm)
theorem RkR.rowc {w w' : World} {B g : Nat} {l : List UInt8} {st : Option (List UInt8)} (h : RkR w B g l st) {e : TypeId} {size n c : Nat} {A : Option Addr} {xs : List Value} (hr : Row w (Of A) e size A n c xs) (ht : e ≠ 96) (hc : Chg (Of A) w w') (hA : ∀ a, A = some a → B ≤ a.block) : RkR w' B g l st :=
  h.chg hc (fun k hk => by
    cases A with
    | none => exact (Of.none hk).elim
    | some a =>
      obtain ⟨g', cur, rfl, _, hb, _⟩ := hr.block rfl
      have hk := hk.some_
      exact .inr ⟨by rw [hk]; exact hA _ rfl, _, _, by rw [hk]; exact hb, fun h => ht h.symm⟩)
theorem below_one {w w' : World} {g B : Nat} (h : Chg (One g) w w') (hg : B ≤ g) (hB : B ≤ w.heap.size) : Below B w w' := h.below (fun k hk => by rw [show k = g from hk]; exact hg) hB
set_option maxRecDepth 100000 in
theorem res_rdec {tmps : Array Value} {w : World} {g : Nat} {v0 v1 v2 v3 v4 v5 v6 v7 v8 v9 v10 : Value} (hp : tmps.getD 4 undef = .pointer (some ⟨g, 0, none⟩)) (hb : Blk w g 26 #[v0, v1, v2, v3, v4, v5, v6, v7, v8, v9, v10]) :
    (results Tryz.f18 tmps).run Tryz.prog w = .ok (.tuple #[.agg #[v0, v1, v2, v3, v4, v5, v6, v7, v8, v9, v10], tmps.getD 5 undef]) w := res_cell rfl tmps w g 26 _ (0, 0) _ hp hb rfl rfl rfl

end Go.Proofs.YtogjokofmfpmgaaGreatDoor
