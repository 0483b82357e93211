/-
  henlaw26.first.
-/
import Derived.Test.YtogjokofmfpmgaaGreatDoorGAS
import Derived.Test.YtogjokofmfpmgaaGreatDoorSesH
import Derived.Test.YtogjokofmfpmgaaGreatDoorSesI
set_option linter.unusedVariables false
set_option linter.unusedSimpArgs false
namespace Go.Proofs.YtogjokofmfpmgaaGreatDoor
open Go.RowKit

def getA : Rq := ⟨6, [], [104, 111, 109, 101], [97], [], 0, 0, [], 0, 0, 0⟩
theorem chk_getA : chk getA = 0 := by
  have e1 : strayB getA = false := by decide
  have e2 : namedB getA = true := by decide
  have e3 : formedB getA = true := by
    unfold formedB getA
    simp [hCd, hCn]
  have e4 : outB getA = false := by decide
  have e0 : isK getA.k = true := by decide
  unfold chk
  rw [e0, e1, e2, e3, e4]
  simp
theorem getA_b : RqB getA := ⟨by decide, by decide, by decide, (fun o ho => by cases ho), by decide, by decide, by decide⟩
theorem getA_s : RqS getA := ⟨by decide, by decide, by decide, by decide, by decide, (fun o ho => by cases ho)⟩
theorem getA_e : frameB getA.k.toNat (encB getA) = frameB 6 [4, 104, 111, 109, 101, 1, 97] := by decide
def fA : List UInt8 := frameB 6 [4, 104, 111, 109, 101, 1, 97]
def sA0 : Ss := newS 100
def sA1 : Ss := moreS sA0 fA
def sA2 : Ss := { sA0 with seq := 1 }
theorem idle_sA0 : Idle sA0 := ⟨rfl, rfl, rfl⟩
theorem idle_sA2 : Idle sA2 := ⟨rfl, rfl, rfl⟩
theorem feed_sA : mayFeed sA0 fA = true ∧ feedS sA0 fA = sA1 := by
  have h : mayFeed sA0 fA = true := by decide
  exact ⟨h, feed_may h⟩
theorem sA1_look : lookW sA1 = 1 := by
  have := (asks_look idle_sA0 chk_getA getA_b).1
  rw [getA_e] at this
  exact this
theorem sA1_next : nextS sA1 = (⟨2, 1, 6, rq0, 10⟩, sA2) := by
  have := asks_next idle_sA0 chk_getA getA_b
  rw [getA_e, if_pos (by decide)] at this
  exact this
theorem sA2_next : nextS sA2 = (tn0 0, sA2) := next_0 (idle_look idle_sA2)

/-- A pair of blocks that a session has, above what was there. -/
structure SesA (v w : World) (g p : Nat) (s : Ss) : Prop where
  r : SesR w g p s
  g : v.heap.size ≤ g
  p : v.heap.size ≤ p
  b : Below v.heap.size v w
theorem SesA.two {v w : World} {g p : Nat} {s : Ss} (h : SesA v w g p s) : ∀ k, Two g p k → v.heap.size ≤ k := fun k hk => by rcases hk with rfl | rfl; exact h.g; exact h.p
theorem SesA.chg {v w w' : World} {g p : Nat} {s s' : Ss} (h : SesA v w g p s) (hc : Chg (Two g p) w w') (hs : SesR w' g p s') : SesA v w' g p s' :=
  ⟨hs, h.g, h.p, h.b.trans (hc.below h.two h.b.size)⟩
theorem SesA.below {v w w' : World} {g p : Nat} {s : Ss} (h : SesA v w g p s) (hb : Below w.heap.size w w') : SesA v w' g p s :=
  ⟨⟨h.r.b.below hb h.r.b.lt, h.r.p.below hb h.r.p.lt⟩, h.g, h.p, h.b.trans (hb.mono h.b.size)⟩
theorem snew_a (v w : World) (r : Int) (h : Below v.heap.size v w) : Calls Tryz.prog 28 #[.int .i64 r] w fun e w' => ∃ g p, e = .returned (.pointer (some ⟨g, 0, none⟩)) ∧ SesA v w' g p (newS r) ∧ Below w.heap.size w w' :=
  (snew_calls w r).mono fun e w' ⟨g, he, hs, hg, hb⟩ => ⟨g, w.heap.size, he, ⟨hs, Nat.le_trans h.size (Nat.le_of_lt hg), h.size, h.trans (hb.mono h.size)⟩, hb⟩
theorem next_a (v w : World) (g p : Nat) (s : Ss) (ht : Tbs v) (h : SesA v w g p s) (hb : s.buf.length ≤ 1000000) (hq : 0 ≤ s.seq ∧ s.seq ≤ 1000000) :
    Calls Tryz.prog 34 #[.pointer (some ⟨g, 0, none⟩)] w fun e w' => ∃ (A : Option Addr) (c : Nat), e = .returned (turnV (nextS s).1 A c) ∧ Row w' (From w.heap.size) 43 5 A (nextS s).1.q.ops.length c (opsE (nextS s).1.q.ops) ∧ SesA v w' g p (nextS s).2 ∧ Chg (Two g p) w w' :=
  (next_calls_s w g p s h.r hb hq v ht h.b h.g h.p).mono fun e w' ⟨⟨A, c, he, hr, hs, hc⟩⟩ => ⟨A, c, he, hr, h.chg hc hs, hc⟩
theorem feed_a (v w : World) (g p : Nat) (s : Ss) (x : ByteArray) (h : SesA v w g p s) (hr0 : 0 ≤ s.room) (hr : s.room ≤ 9223372036854775807) (hb : s.buf.length ≤ 1000000000) (hx : x.size ≤ 1000000000) :
    Calls Tryz.prog 30 #[.pointer (some ⟨g, 0, none⟩), .string x] w fun e w' => e = .returned (.bool (mayFeed s x.data.toList)) ∧ SesA v w' g p (feedS s x.data.toList) ∧ Chg (One p) w w' :=
  (feed_calls w g p s x h.r hr0 hr hb hx).mono fun e w' ⟨he, hs, hc⟩ => ⟨he, h.chg hc.two hs, hc⟩

set_option maxRecDepth 100000 in
set_option maxHeartbeats 4000000 in
theorem sfirst_calls (w : World) (ht : Tbs w) : Calls Tryz.prog 26 #[] w fun e w' => e = .returned (.bool true) ∧ Below w.heap.size w w' := by
  have C0 := hd (snew_a w w 100 (Below.refl _ _))
  have CK := hd (fun W => show Calls Tryz.prog 73 #[.agg #[.int .i64 6, .string ⟨#[]⟩, .string ⟨#[104, 111, 109, 101]⟩, .string ⟨#[97]⟩, .string ⟨#[]⟩, .int .i64 0, .int .i64 0, .slice none 0 0, .int .i64 0, .int .i64 0, .int .i64 0]] W fun e w' => e = .returned (.string (bs fA)) ∧ Below W.heap.size W w' from by
    have := kframe_calls getA none 0 W (Row.rds (Row.nil W Non 43 5)) getA_s getA_b chk_getA
    rw [getA_e] at this
    exact this)
  have HT := hd ht
  clear ht
  go_enter Tryz.func26, Tryz.ntmps26
  go_wp2_with fail
  refine C0.o.mono ?_
  rintro e w1 ⟨g, p, rfl, hs1, _⟩
  have HS1 := hd hs1
  clear hs1 C0
  go_wp2_with fail
  refine (CK.o _).mono ?_
  rintro e w2 ⟨rfl, hb2⟩
  have HS2 := hd (HS1.o.below hb2)
  have C2 := feed_a w w2 g p sA0 (bs fA) HS2.o (by decide) (by decide) (by decide) (by decide)
  rw [bs_data, feed_sA.1, feed_sA.2] at C2
  replace C2 := hd C2
  clear hb2 HS1 CK
  go_wp2_with fail
  refine C2.o.mono ?_
  rintro e w3 ⟨rfl, hs3, _⟩
  have C3 := ready_calls w3 g p sA1 hs3.r (by decide)
  rw [show readyS sA1 = true by unfold readyS; rw [sA1_look]; rfl] at C3
  have HS3 := hd hs3
  replace C3 := hd C3
  clear hs3 C2 HS2
  go_wp2_with fail
  refine C3.o.mono ?_
  rintro e w4 ⟨rfl, hb4⟩
  have HS4 := hd (HS3.o.below hb4)
  have C4 := next_a w w4 g p sA1 HT.o HS4.o (by decide) (by decide)
  rw [sA1_next] at C4
  replace C4 := hd C4
  clear hb4 C3 HS3
  go_wp2_with fail
  refine C4.o.mono ?_
  rintro e w5 ⟨A, c, he, _, hs5, _⟩
  have he2 : e = .returned (.agg #[.int .i64 2, .int .i64 1, .int .i64 6, .int .i64 0, .string ⟨#[]⟩, .string ⟨#[]⟩, .string ⟨#[]⟩, .string ⟨#[]⟩, .int .i64 0, .int .i64 0, .slice A 0 c, .int .i64 0, .int .i64 0, .int .i64 0, .int .i64 10]) := he
  subst he2
  clear he
  obtain ⟨w6, hw6⟩ : ∃ w6, w6 = w5.alloc (.cells #[.int .i64 2, .int .i64 1, .int .i64 6, .int .i64 0, .string ⟨#[]⟩, .string ⟨#[]⟩, .string ⟨#[]⟩, .string ⟨#[]⟩, .int .i64 0, .int .i64 0, .slice A 0 c, .int .i64 0, .int .i64 0, .int .i64 0, .int .i64 10] 61) := ⟨_, rfl⟩
  have HS6 := hd (hs5.below (show Below w5.heap.size w5 w6 by rw [hw6]; exact (Below.refl _ _).alloc (Nat.le_refl _) _))
  have HT6 := show Blk w6 w5.heap.size 61 _ by rw [hw6]; exact Blk.new _ _ _
  have y0 := HT6.at_ 0 rfl
  have y1 := HT6.at_ 1 rfl
  have y2 := HT6.at_ 2 rfl
  have y14 := HT6.at_ 14 rfl
  have C6 := tenant_calls w6 g p sA2 HS6.o.r
  have C7 := next_a w w6 g p sA2 HT.o HS6.o (by decide) (by decide)
  rw [sA2_next] at C7
  have HW6 := hd hw6
  replace C6 := hd C6
  replace C7 := hd C7
  clear hs5 hw6 HT6 C4 HS4
  have kt : (bs sA2.tn).toList = [] := by rw [bs_toL]; rfl
  go_upto_region 5 with (fail)
  rw [← HW6.o]
  go_wp2_with fail
  refine C6.o.mono ?_
  rintro e w' ⟨rfl, rfl⟩
  go_wp2_with fail
  refine C7.o.mono ?_
  rintro e w7 ⟨A2, c2, he, _, hs7, _⟩
  have he2 : e = .returned (.agg #[.int .i64 0, .int .i64 0, .int .i64 0, .int .i64 0, .string ⟨#[]⟩, .string ⟨#[]⟩, .string ⟨#[]⟩, .string ⟨#[]⟩, .int .i64 0, .int .i64 0, .slice A2 0 c2, .int .i64 0, .int .i64 0, .int .i64 0, .int .i64 0]) := he
  subst he2
  have HB7 := hd hs7.b
  have kf : (Instr.field 61 (.agg #[.int .i64 0, .int .i64 0, .int .i64 0, .int .i64 0, .string ⟨#[]⟩, .string ⟨#[]⟩, .string ⟨#[]⟩, .string ⟨#[]⟩, .int .i64 0, .int .i64 0, .slice A2 0 c2, .int .i64 0, .int .i64 0, .int .i64 0, .int .i64 0]) 0).run Tryz.prog w7 = .ok (.int .i64 0) w7 := by kernel_rfl
  clear he hs7
  go_wp2_with fail
  go_ret
  exact ⟨rfl, HB7.o⟩
end Go.Proofs.YtogjokofmfpmgaaGreatDoor
