/-
  henlaw12.ReqNames.
-/
import Derived.Test.YtogjokofmfpmgaaGreatDoorGAQ
import Derived.Test.YtogjokofmfpmgaaGreatDoorGAR
import Derived.Deep.CutRange
set_option linter.unusedVariables false
set_option linter.unusedSimpArgs false
namespace Go.Proofs.YtogjokofmfpmgaaGreatDoor
open Go.RowKit

theorem opInfoN : (Tryz.prog.info? 43).map (fun i => (i.zero, i.size, i.bytes)) = some (some (.agg #[.bool false, .string ⟨#[]⟩, .string ⟨#[]⟩, .int .i64 0, .int .i64 0]), 5, 56) := by kernel_rfl
theorem kchgN {t0 : TypeId} {W x : World} {e : TypeId} {size n c : Nat} {E : Option Addr} {xs : List Value} (ht : e ≠ t0) (zc : Chg (Of E) W x) (hr : Row W (Of E) e size E n c xs) {g : Nat} {cs : Array Value} (hB : Blk W g t0 cs) : Blk x g t0 cs :=
  hB.chg zc (fun hk => by
    cases E with
    | none => exact Of.none hk
    | some a => exact hr.ne_blk hB ht a rfl hk.some_.symm)
/-- One cell of a row is written. -/
theorem Row.set1 {w : World} {S : Nat → Prop} {e : TypeId} {size n c g : Nat} {xs : List Value} (h : Row w S e size (some ⟨g, 0, none⟩) n c xs) (i : Nat) (v : Value) (hi : i < n * size) : Row (w.setCell ⟨g, i, none⟩ v) S e size (some ⟨g, 0, none⟩) n c (xs.set i v) := by
  obtain ⟨g', cur, hg, hS, hb, hnc, hcm, hcs, ht⟩ := h.block rfl
  injection hg with hg
  subst hg
  refine Row.of_block (hb.set_ i v) hS hnc hcm (by rw [Array.size_setIfInBounds]; exact hcs) ?_ (by rw [List.length_set]; exact h.len)
  rw [Array.toList_setIfInBounds, ← ht, List.take_set]
theorem opsE_set (l : List OpV) (a : Nat) (ha : a < l.length) (o : OpV) (j : Nat) (v : Value) (h : (opEnc l[a]).set j v = opEnc o) (hj : j < 5) : (opsE l).set (a * 5 + j) v = opsE (l.set a o) := by
  refine List.ext_getElem? fun i => ?_
  by_cases hi : i < l.length * 5
  · have hia : i / 5 < l.length := by omega
    have e0 : i = i / 5 * 5 + i % 5 := by omega
    have h5 : i % 5 < 5 := Nat.mod_lt _ (by decide)
    rw [List.getElem?_set]
    by_cases he : a * 5 + j = i
    · subst he
      rw [if_pos rfl, if_pos (by rw [opsE_len]; exact hi)]
      have h1 := opsE_at (l.set a o) a (by simpa using ha) j hj
      rw [h1, List.getElem_set_self, ← h, List.getElem?_set_self (by rw [opEnc_len]; exact hj)]
    · rw [if_neg he]
      conv => lhs; rw [e0]
      conv => rhs; rw [e0]
      rw [opsE_at l _ hia _ h5, opsE_at (l.set a o) _ (by simpa using hia) _ h5]
      by_cases hq : i / 5 = a
      · subst hq
        rw [List.getElem_set_self, ← h, List.getElem?_set_ne (by omega)]
      · rw [List.getElem_set_ne (fun hh => hq hh.symm)]
  · rw [List.getElem?_eq_none (by rw [List.length_set, opsE_len]; omega), List.getElem?_eq_none (by rw [opsE_len, List.length_set]; omega)]
theorem opsN_snoc (k : Nat) : opsE ((List.range (k + 1)).map opN) = opsE ((List.range k).map opN) ++ opEnc (opN k) := by
  rw [List.range_succ, List.map_append, opsE_app]
  show _ ++ opsE [opN k] = _
  simp [opsE]
theorem ballocN {a w : World} (h : Below a.heap.size a w) (o : Obj) : Below a.heap.size a (w.alloc o) := h.alloc h.size o
theorem bdrwN {B : Nat} {a w : World} (h : Below B a w) : Below B a w.drew := ⟨h.os, h.tape, h.output, h.size, h.block⟩
theorem bnewN {a W x : World} (zb : Below W.heap.size W x) (h : Below a.heap.size a W) : Below a.heap.size a x := h.trans (zb.mono h.size)
theorem bchgN {w a W x : World} {e : TypeId} {size n c : Nat} {A : Option Addr} {xs : List Value} (hr : Row a (From w.heap.size) e size A n c xs) (hb : Below w.heap.size w a) (zc : Chg (Of A) W x) (h : Below a.heap.size a W) : Below w.heap.size w x :=
  (hb.trans (h.mono hb.size)).trans (zc.below (fun q hq => hr.of_sub q hq) (Nat.le_trans hb.size h.size))
theorem rchgN {w a W x : World} {e : TypeId} {size n n2 c c2 : Nat} {A A2 : Option Addr} {xs xs2 : List Value} (hr : Row a (From w.heap.size) e size A n c xs) (hb : Below w.heap.size w a) (z : Row x (Plus (Of A) W.heap.size) e size A2 n2 c2 xs2) (h : Below a.heap.size a W) : Row x (From w.heap.size) e size A2 n2 c2 xs2 :=
  z.mono (fun q hq => hq.elim (fun k => hr.of_sub q k) (fun k => Nat.le_trans (Nat.le_trans hb.size h.size) k))
theorem cardN_len (i : Nat) : (cardN i).length ≤ 1000 := by
  unfold cardN
  split
  · decide
  · split
    · decide
    · split
      · decide
      · split <;> decide
theorem card_ne (i : Nat) : cardN i ≠ [] := by
  unfold cardN
  split
  · decide
  · split
    · decide
    · split
      · decide
      · split <;> decide
theorem opN_len (i : Nat) : (opN i).uid.length ≤ 1000000 ∧ (opN i).card.length ≤ 1000000 := by
  have := cardN_len i
  refine ⟨?_, ?_⟩
  · show (uidN i).length ≤ _
    unfold uidN; simp
  · show (cardN i).length ≤ _
    omega
def homeC (A : Option Addr) (n c : Nat) : Array Value := #[.int .i64 7, .string ⟨#[]⟩, .string ⟨#[104, 111, 109, 101]⟩, .string ⟨#[]⟩, .string ⟨#[]⟩, .int .i64 0, .int .i64 0, .slice A n c, .int .i64 0, .int .i64 0, .int .i64 0]

set_option maxRecDepth 100000 in
set_option maxHeartbeats 4000000 in
theorem rnames_law (n a bad : Int) (w : World) (ht : Tbs w) (hn : -9223372036854775808 ≤ n ∧ n ≤ 9223372036854775807) (ha : -9223372036854775808 ≤ a ∧ a ≤ 9223372036854775807) (hbd : -9223372036854775808 ≤ bad ∧ bad ≤ 9223372036854775807) :
    Calls Tryz.prog 7 #[.int .i64 n, .int .i64 a, .int .i64 bad] w fun e w' => e = .returned (.bool true) ∧ Below w.heap.size w w' := by
  have C1 := hd (first_calls w ht)
  have HT := hd (fun W (h : Below w.heap.size w W) => ht.below h)
  obtain ⟨x, hx⟩ : ∃ x, bits .and .i64 n 255 = x := ⟨_, rfl⟩
  have hx0 := and255f n
  rw [hx] at hx0
  obtain ⟨j, hj⟩ : ∃ j : Nat, x % 8 = (j : Int) := ⟨(x % 8).toNat, by omega⟩
  have hj8 : j < 8 := by omega
  obtain ⟨N, hN⟩ : ∃ N : Nat, (1 : Int) + (j : Int) = (N : Int) := ⟨1 + j, by omega⟩
  have hN1 : 1 ≤ N := by omega
  have hN8 : N ≤ 8 := by omega
  obtain ⟨y, hy⟩ : ∃ y, bits .and .i64 a 255 = y := ⟨_, rfl⟩
  have hy0 := and255f a
  rw [hy] at hy0
  obtain ⟨p, hp⟩ : ∃ p : Nat, y % (N : Int) = (p : Int) := ⟨(y % (N : Int)).toNat, by have := Int.emod_nonneg y (by omega : (N : Int) ≠ 0); omega⟩
  have hpN : p < N := by have := Int.emod_lt_of_pos y (by omega : (0 : Int) < (N : Int)); omega
  obtain ⟨z, hz⟩ : ∃ z, bits .and .i64 bad 255 = z := ⟨_, rfl⟩
  have hz0 := and255f bad
  rw [hz] at hz0
  have hx1 := hx0.1
  have hy1 := hy0.1
  have hz1 := hz0.1
  have hx2 := hx0.2
  have hy2 := hy0.2
  have hz2 := hz0.2
  have hNi : (1 : Int) ≤ (N : Int) := by omega
  have hN8i : (N : Int) ≤ 8 := by omega
  obtain ⟨i0, hi, hzz0, hzz1, hzz2⟩ := info_parts opInfoN
  have HZ := hd hz
  clear ht hn ha hbd hx0 hy0 hz0 hz
  go_enter Tryz.func7, Tryz.ntmps7
  go_wp2_with fail
  refine C1.o.mono ?_
  rintro e w1 ⟨rfl, hb1⟩
  have HB1 := hd hb1
  clear hb1
  obtain ⟨w2, hw2⟩ : ∃ w2, w2 = w1.alloc (.cells (homeC none 0 0) 26) := ⟨_, rfl⟩
  have HQ2 := hd (show Blk w2 w1.heap.size 26 (homeC none 0 0) by rw [hw2]; exact Blk.new _ _ _)
  have HB2 := hd (show Below w.heap.size w w2 by rw [hw2]; exact HB1.o.alloc HB1.o.size _)
  have HGw := hd HB1.o.size
  obtain ⟨G, hG⟩ : ∃ G, w1.heap.size = G := ⟨_, rfl⟩
  rw [hG] at HQ2 HGw
  have HW2 := hd hw2
  have HGG := hd hG
  clear hw2 hG
  go_upto_region 6 with (fail)
  rw [show (w1.alloc (.cells #[.int .i64 7, .string ⟨#[]⟩, .string ⟨#[104, 111, 109, 101]⟩, .string ⟨#[]⟩, .string ⟨#[]⟩, .int .i64 0, .int .i64 0, .slice none 0 0, .int .i64 0, .int .i64 0, .int .i64 0] 26)) = w2 from HW2.o.symm]
  rw [HGG.o]
  (try rw [hp])
  clear hx hj hN hy hp
  go_wp2_with fail
  go_loopw [8] (fun i wr => ∃ (k c : Nat) (A : Option Addr), i = .int .i64 k ∧ k ≤ N ∧ Hd (Blk wr G 26 (homeC A k c)) ∧ Hd (Row wr (From w.heap.size) 43 5 A k c (opsE ((List.range k).map opN))) ∧ Hd (Below w.heap.size w wr)) (fun i _ => N - (intOf i).toNat)
  case atStart => exact ⟨0, 0, none, rfl, Nat.zero_le _, HQ2, hd (Row.nil _ _ _ _), HB2⟩
  case round =>
    obtain ⟨k, c, A, rfl, hk, HQ, HR, HB⟩ := hrel
    have hki : (0 : Int) ≤ (k : Int) := by omega
    by_cases hlt : k < N
    · have hlti : (k : Int) < (N : Int) := by omega
      have hk8 : k < 8 := by omega
      have CU := hd (fun W => kuid_calls k hk8 W)
      have CC := hd (fun W => kcard_calls k hk8 W)
      have q7 : wr.cell? ⟨G, 7, none⟩ = some (.slice A k c) := HQ.o.at_ 7 rfl
      have ql := HQ.o.lt
      have HRO := hd HR.o.own_
      have hmm : k + 1 ≤ maxLen := by unfold maxLen; omega
      have hby : (k + 1) * 56 ≤ 140737488355328 := by omega
      have HONE : Hd (∀ z ∈ ([.bool false, .string (bs (uidN k)), .string (bs (cardN k)), .int .i64 0, .int .i64 0] : List Value), z.oneCell' = true) := hd (by simp [Value.oneCell'])
      have HBR := hd (Below.refl wr.heap.size wr)
      go_upto_region 9 with (fail)
      go_region_law (first
        | (go_simp; go_at_call 24; (with_reducible refine (CU.o _).mono ?_); rintro e w' ⟨rfl, rfl⟩)
        | (go_simp; go_at_call 25; (with_reducible refine (CC.o _).mono ?_); rintro e w3 ⟨rfl, hb3⟩
           have HB3 : Hd (Below wr.heap.size wr w3) := hd (bnewN hb3 (by with_reducible (repeat (first | exact HBR.o | refine ballocN ?_ _ | refine bdrwN ?_))))
           have HQ3 := hd (HQ.o.below HB3.o ql)
           have q7b : w3.cell? ⟨G, 7, none⟩ = some (.slice A k c) := HQ3.o.at_ 7 rfl
           have ql3 := HQ3.o.lt
           have HR3 := hd (HRO.o.below HB3.o)
           clear hb3)
        | ((refine step_append_any (by rfl) _ _ 24 (by rfl) (Of A) 43 i0 (.agg #[.bool false, .string ⟨#[]⟩, .string ⟨#[]⟩, .int .i64 0, .int .i64 0]) 5 56 Tryz.underlying24 hi hzz0 hzz1 hzz2 rfl A k c (opsE ((List.range k).map opN)) (by rfl) _ 1 1 [.bool false, .string (bs (uidN k)), .string (bs (cardN k)), .int .i64 0, .int .i64 0] (by rfl) rfl HONE.o (by omega) hmm hby ?_ ?_ ?_
            · (with_reducible (repeat (first | exact HR3.o | refine Row.alloc ?_ _ | refine Row.drew ?_)))
            · (refine cells_at (t := 43) (cs := #[.bool false, .string (bs (uidN k)), .string (bs (cardN k)), .int .i64 0, .int .i64 0]) ?_ rfl
               repeat (first | (with_reducible refine Blk.new_ _ _ ?_ _ _; simp; done) | with_reducible refine Blk.alloc ?_ _ | with_reducible refine Blk.drew ?_))
            intro A2 c2 x2 z2 zc2
            have BX := kchgN (t0 := 26) (e := 43) (size := 5) (n := k) (c := c) (xs := opsE ((List.range k).map opN)) (by decide) zc2 (by with_reducible (repeat (first | exact HR3.o | refine Row.alloc ?_ _ | refine Row.drew ?_))) (cs := homeC A k c) (g := G) (by with_reducible (repeat (first | exact HQ3.o | refine Blk.alloc ?_ _ | refine Blk.drew ?_)))
            have u7 : x2.cell? ⟨G, 7, none⟩ = some (.slice A k c) := BX.at_ 7 rfl
            have f7 := BX.frozen 7
            have HBX := hd BX
            have HBx2 : Hd (Below w.heap.size w x2) := hd (bchgN HR.o HB.o zc2 (by with_reducible (repeat (first | exact HB3.o | refine ballocN ?_ _ | refine bdrwN ?_))))
            have HZ2 : Hd (Row x2 (From w.heap.size) 43 5 A2 (k + 1) c2 (opsE ((List.range k).map opN) ++ opEnc (opN k))) := hd (rchgN HR.o HB.o z2 (by with_reducible (repeat (first | exact HB3.o | refine ballocN ?_ _ | refine bdrwN ?_))))
            clear z2 zc2 BX)))
      all_goals
        have HQ9 := hd (HBX.o.set_ 7 (.slice A2 (k + 1) c2))
        have HR9 := hd (HZ2.o.far (p := ⟨G, 7, none⟩) (fun a ha => HZ2.o.ne_blk HBX.o (by decide) a ha) (.slice A2 (k + 1) c2))
        have HB9 := hd (HBx2.o.setCell (p := ⟨G, 7, none⟩) HGw.o (.slice A2 (k + 1) c2))
        go_wp2
        go_roundw
        case rel => exact ⟨k + 1, c2, A2, by go_num, by omega, hd (by exact HQ9.o), hd (by rw [opsN_snoc]; exact HR9.o), HB9⟩
        case measure => simp [intOf]; omega
    · obtain rfl : k = N := by omega
      obtain ⟨L, hL⟩ : ∃ L, (List.range k).map opN = L := ⟨_, rfl⟩
      rw [hL] at HR
      have hLk : L.length = k := by rw [← hL]; simp
      have hLp : ∃ h : p < L.length, L[p] = opN p := ⟨by omega, by subst hL; simp⟩
      obtain ⟨hpl, hLp⟩ := hLp
      have HCN := hd (show ∀ l : List OpV, l.length = k → (∀ o ∈ l, o.uid.length ≤ 1000000 ∧ o.card.length ≤ 1000000) → ∀ W A c, Below w.heap.size w W → Rds W A k 5 (opsE l) → Calls Tryz.prog 19 #[.agg (homeC A k c)] W fun e w' => e = .returned (.int .i64 (chk (reqB l))) ∧ Below W.heap.size W w' from fun l hl ho W A c hb hr => by
        have := check_calls (reqB l) A c W (HT.o W hb) (by show Rds W A l.length 5 (opsE l); rw [hl]; exact hr) ⟨by show ([] : List UInt8).length ≤ _; decide, by show home.length ≤ _; decide, by show ([] : List UInt8).length ≤ _; decide, by show ([] : List UInt8).length ≤ _; decide, by show l.length ≤ _; omega, ho⟩
        unfold reqV reqE at this
        simp only [reqB] at this
        rw [hl] at this
        exact this)
      have HOL := hd (show ∀ o ∈ L, o.uid.length ≤ 1000000 ∧ o.card.length ≤ 1000000 from fun o ho => by
        rw [← hL] at ho
        obtain ⟨i, _, rfl⟩ := List.mem_map.1 ho
        exact opN_len i)
      have HLK := hd hLk
      have HLP := hd hLp
      obtain ⟨g, hA, _, hg, hkc, hcm, hcl, hfz⟩ := HR.o.at_ (by omega)
      subst hA
      have CK := HCN.o L hLk HOL.o wr (some ⟨g, 0, none⟩) c HB.o HR.o.rds
      rw [show chk (reqB L) = 0 by rw [← hL]; exact chk_names hN1 hN8] at CK
      have HLL := hd hL
      replace CK := hd CK
      have hqx : Blk wr G 26 #[.int .i64 7, .string ⟨#[]⟩, .string ⟨#[104, 111, 109, 101]⟩, .string ⟨#[]⟩, .string ⟨#[]⟩, .int .i64 0, .int .i64 0, .slice (some ⟨g, 0, none⟩) k c, .int .i64 0, .int .i64 0, .int .i64 0] := HQ.o
      have q0 := hqx.at_ 0 rfl
      have q1 := hqx.at_ 1 rfl
      have q2 := hqx.at_ 2 rfl
      have q3 := hqx.at_ 3 rfl
      have q4 := hqx.at_ 4 rfl
      have q5 := hqx.at_ 5 rfl
      have q6 := hqx.at_ 6 rfl
      have q7 := hqx.at_ 7 rfl
      have q8 := hqx.at_ 8 rfl
      have q9 := hqx.at_ 9 rfl
      have q10 := hqx.at_ 10 rfl
      clear hqx
      have ql := HQ.o.lt
      clear hcl hfz hL hLk hLp
      unfold homeC at CK
      go_wp2_with fail
      refine CK.o.mono ?_
      rintro e w5 ⟨rfl, hb5⟩
      have HQ5 := hd (HQ.o.below hb5 ql)
      have HR5 := hd (HR.o.below hb5)
      have HB5 := hd (HB.o.trans (hb5.mono HB.o.size))
      clear hb5 q0 q1 q2 q3 q4 q5 q6 q7 q8 q9 q10 ql
      obtain ⟨g', hA', _, hg5, _, _, hcl, hfz⟩ := HR5.o.at_ (by omega)
      injection hA' with hA'
      injection hA' with hA'
      subst hA'
      have hce : ∀ j u, j < 5 → (opEnc (opN p))[j]? = some u → w5.cell? ⟨g, p * 5 + j, none⟩ = some u := fun j u hj hu => hcl _ _ ((opsE_at L p hpl j hj).trans (by rw [HLP.o]; exact hu))
      have c0_ := hce 0 _ (by omega) rfl
      have f0_ := hfz (p * 5 + 0)
      have c1_ := hce 1 _ (by omega) rfl
      have f1_ := hfz (p * 5 + 1)
      have c2_ := hce 2 _ (by omega) rfl
      have f2_ := hfz (p * 5 + 2)
      have c3_ := hce 3 _ (by omega) rfl
      have f3_ := hfz (p * 5 + 3)
      have c4_ := hce 4 _ (by omega) rfl
      have f4_ := hfz (p * 5 + 4)
      rw [Nat.add_zero] at c0_ f0_
      have q7 : w5.cell? ⟨G, 7, none⟩ = some (.slice (some ⟨g, 0, none⟩) k c) := HQ5.o.at_ 7 rfl
      have hpk : (p : Int) < (k : Int) := by omega
      have hp0 : (0 : Int) ≤ (p : Int) := by omega
      have HGG2 := hd (HR5.o.ne_blk HQ5.o (by decide) ⟨g, 0, none⟩ rfl)
      have hm4 : z % 4 = 0 ∨ z % 4 = 1 ∨ z % 4 = 2 ∨ z % 4 = 3 := by omega
      have HGS := hd (HR5.o.fp ⟨g, 0, none⟩ rfl)
      have HI5 := hd (show ∀ j, j < 5 → p * 5 + j < k * 5 from fun j hj => by omega)
      clear hcl hfz hce HR HQ HB CK
      have hzz := HZ.o
      rcases hm4 with hm4 | hm4 | hm4 | hm4
      · obtain ⟨w6, hw6⟩ : ∃ w6, w6 = (w5.setCell ⟨g, p * 5 + 1, none⟩ (.string ⟨#[]⟩)) := ⟨_, rfl⟩
        have HR6 := hd (show Row w6 (From w.heap.size) 43 5 (some ⟨g, 0, none⟩) k c (opsE (L.set p ⟨false, [], cardN p, 0, 0⟩)) by rw [hw6]; have := (HR5.o.set1 (p * 5 + 1) (.string ⟨#[]⟩) (HI5.o 1 (by decide))); rw [show (opsE L).set (p * 5 + 1) (.string ⟨#[]⟩) = opsE (L.set p ⟨false, [], cardN p, 0, 0⟩) from opsE_set L p hpl ⟨false, [], cardN p, 0, 0⟩ 1 _ (by rw [HLP.o]; rfl) (by decide)] at this; exact this)
        have HQ6 := hd (show Blk w6 G 26 (homeC (some ⟨g, 0, none⟩) k c) by rw [hw6]; exact (HQ5.o.far (p := ⟨g, p * 5 + 1, none⟩) (fun h => HGG2.o h.symm) (.string ⟨#[]⟩)))
        have HB6 := hd (show Below w.heap.size w w6 by rw [hw6]; exact (HB5.o.setCell (p := ⟨g, p * 5 + 1, none⟩) HGS.o (.string ⟨#[]⟩)))
        have CK2 := HCN.o (L.set p ⟨false, [], cardN p, 0, 0⟩) (by rw [List.length_set]; exact HLK.o) (fun o ho => by
          rcases List.mem_or_eq_of_mem_set ho with ho | ho
          · exact HOL.o o ho
          · rw [ho]; exact ⟨by show ([] : List UInt8).length ≤ _; decide, (opN_len p).2⟩) w6 (some ⟨g, 0, none⟩) c HB6.o HR6.o.rds
        rw [show chk (reqB (L.set p ⟨false, [], cardN p, 0, 0⟩)) = 3 by rw [← HLL.o]; exact chk_spoilt hpN hN8 ⟨false, [], cardN p, 0, 0⟩ 3 (.inl ⟨rfl, by show uidB [] = false; decide, rfl⟩)] at CK2
        unfold homeC at CK2
        replace CK2 := hd CK2
        have HW6 := hd hw6
        clear hw6
        go_upto_region 21 with (fail)
        rw [← HW6.o]
        clear q7 c0_ f0_ c1_ f1_ c2_ f2_ c3_ f3_ c4_ f4_
        have hqx : Blk w6 G 26 #[.int .i64 7, .string ⟨#[]⟩, .string ⟨#[104, 111, 109, 101]⟩, .string ⟨#[]⟩, .string ⟨#[]⟩, .int .i64 0, .int .i64 0, .slice (some ⟨g, 0, none⟩) k c, .int .i64 0, .int .i64 0, .int .i64 0] := HQ6.o
        have q0 := hqx.at_ 0 rfl
        have q1 := hqx.at_ 1 rfl
        have q2 := hqx.at_ 2 rfl
        have q3 := hqx.at_ 3 rfl
        have q4 := hqx.at_ 4 rfl
        have q5 := hqx.at_ 5 rfl
        have q6 := hqx.at_ 6 rfl
        have q7 := hqx.at_ 7 rfl
        have q8 := hqx.at_ 8 rfl
        have q9 := hqx.at_ 9 rfl
        have q10 := hqx.at_ 10 rfl
        clear hqx
        go_wp2_with fail
        refine CK2.o.mono ?_
        rintro e w7 ⟨rfl, hb7⟩
        have HB7 := hd (HB6.o.trans (hb7.mono HB6.o.size))
        clear hb7
        go_wp2
        go_ret
        exact ⟨rfl, HB7.o⟩
      · obtain ⟨w6, hw6⟩ : ∃ w6, w6 = (w5.setCell ⟨g, p * 5 + 2, none⟩ (.string ⟨#[120]⟩)) := ⟨_, rfl⟩
        have HR6 := hd (show Row w6 (From w.heap.size) 43 5 (some ⟨g, 0, none⟩) k c (opsE (L.set p ⟨false, uidN p, [120], 0, 0⟩)) by rw [hw6]; have := (HR5.o.set1 (p * 5 + 2) (.string ⟨#[120]⟩) (HI5.o 2 (by decide))); rw [show (opsE L).set (p * 5 + 2) (.string ⟨#[120]⟩) = opsE (L.set p ⟨false, uidN p, [120], 0, 0⟩) from opsE_set L p hpl ⟨false, uidN p, [120], 0, 0⟩ 2 _ (by rw [HLP.o]; rfl) (by decide)] at this; exact this)
        have HQ6 := hd (show Blk w6 G 26 (homeC (some ⟨g, 0, none⟩) k c) by rw [hw6]; exact (HQ5.o.far (p := ⟨g, p * 5 + 2, none⟩) (fun h => HGG2.o h.symm) (.string ⟨#[120]⟩)))
        have HB6 := hd (show Below w.heap.size w w6 by rw [hw6]; exact (HB5.o.setCell (p := ⟨g, p * 5 + 2, none⟩) HGS.o (.string ⟨#[120]⟩)))
        have CK2 := HCN.o (L.set p ⟨false, uidN p, [120], 0, 0⟩) (by rw [List.length_set]; exact HLK.o) (fun o ho => by
          rcases List.mem_or_eq_of_mem_set ho with ho | ho
          · exact HOL.o o ho
          · rw [ho]; exact ⟨(opN_len p).1, by show ([120] : List UInt8).length ≤ _; decide⟩) w6 (some ⟨g, 0, none⟩) c HB6.o HR6.o.rds
        rw [show chk (reqB (L.set p ⟨false, uidN p, [120], 0, 0⟩)) = 1 by rw [← HLL.o]; exact chk_spoilt hpN hN8 ⟨false, uidN p, [120], 0, 0⟩ 1 (.inr (.inl ⟨rfl, uidN_ok p, by show (isB [120] && mayP 0 0) = false; unfold isB; rw [x_no]; rfl, rfl⟩))] at CK2
        unfold homeC at CK2
        replace CK2 := hd CK2
        have HW6 := hd hw6
        clear hw6
        go_upto_region 21 with (fail)
        rw [← HW6.o]
        clear q7 c0_ f0_ c1_ f1_ c2_ f2_ c3_ f3_ c4_ f4_
        have hqx : Blk w6 G 26 #[.int .i64 7, .string ⟨#[]⟩, .string ⟨#[104, 111, 109, 101]⟩, .string ⟨#[]⟩, .string ⟨#[]⟩, .int .i64 0, .int .i64 0, .slice (some ⟨g, 0, none⟩) k c, .int .i64 0, .int .i64 0, .int .i64 0] := HQ6.o
        have q0 := hqx.at_ 0 rfl
        have q1 := hqx.at_ 1 rfl
        have q2 := hqx.at_ 2 rfl
        have q3 := hqx.at_ 3 rfl
        have q4 := hqx.at_ 4 rfl
        have q5 := hqx.at_ 5 rfl
        have q6 := hqx.at_ 6 rfl
        have q7 := hqx.at_ 7 rfl
        have q8 := hqx.at_ 8 rfl
        have q9 := hqx.at_ 9 rfl
        have q10 := hqx.at_ 10 rfl
        clear hqx
        go_wp2_with fail
        refine CK2.o.mono ?_
        rintro e w7 ⟨rfl, hb7⟩
        have HB7 := hd (HB6.o.trans (hb7.mono HB6.o.size))
        clear hb7
        go_wp2
        go_ret
        exact ⟨rfl, HB7.o⟩
      · obtain ⟨w6, hw6⟩ : ∃ w6, w6 = (w5.setCell ⟨g, p * 5, none⟩ (.bool true)) := ⟨_, rfl⟩
        have HR6 := hd (show Row w6 (From w.heap.size) 43 5 (some ⟨g, 0, none⟩) k c (opsE (L.set p ⟨true, uidN p, cardN p, 0, 0⟩)) by rw [hw6]; have := (HR5.o.set1 (p * 5) (.bool true) (HI5.o 0 (by decide))); rw [show (opsE L).set (p * 5) (.bool true) = opsE (L.set p ⟨true, uidN p, cardN p, 0, 0⟩) from opsE_set L p hpl ⟨true, uidN p, cardN p, 0, 0⟩ 0 _ (by rw [HLP.o]; rfl) (by decide)] at this; exact this)
        have HQ6 := hd (show Blk w6 G 26 (homeC (some ⟨g, 0, none⟩) k c) by rw [hw6]; exact (HQ5.o.far (p := ⟨g, p * 5, none⟩) (fun h => HGG2.o h.symm) (.bool true)))
        have HB6 := hd (show Below w.heap.size w w6 by rw [hw6]; exact (HB5.o.setCell (p := ⟨g, p * 5, none⟩) HGS.o (.bool true)))
        have CK2 := HCN.o (L.set p ⟨true, uidN p, cardN p, 0, 0⟩) (by rw [List.length_set]; exact HLK.o) (fun o ho => by
          rcases List.mem_or_eq_of_mem_set ho with ho | ho
          · exact HOL.o o ho
          · rw [ho]; exact ⟨(opN_len p).1, (opN_len p).2⟩) w6 (some ⟨g, 0, none⟩) c HB6.o HR6.o.rds
        rw [show chk (reqB (L.set p ⟨true, uidN p, cardN p, 0, 0⟩)) = 1 by rw [← HLL.o]; exact chk_spoilt hpN hN8 ⟨true, uidN p, cardN p, 0, 0⟩ 1 (.inr (.inr ⟨rfl, card_ne p, rfl⟩))] at CK2
        unfold homeC at CK2
        replace CK2 := hd CK2
        have HW6 := hd hw6
        clear hw6
        go_upto_region 21 with (fail)
        rw [← HW6.o]
        clear q7 c0_ f0_ c1_ f1_ c2_ f2_ c3_ f3_ c4_ f4_
        have hqx : Blk w6 G 26 #[.int .i64 7, .string ⟨#[]⟩, .string ⟨#[104, 111, 109, 101]⟩, .string ⟨#[]⟩, .string ⟨#[]⟩, .int .i64 0, .int .i64 0, .slice (some ⟨g, 0, none⟩) k c, .int .i64 0, .int .i64 0, .int .i64 0] := HQ6.o
        have q0 := hqx.at_ 0 rfl
        have q1 := hqx.at_ 1 rfl
        have q2 := hqx.at_ 2 rfl
        have q3 := hqx.at_ 3 rfl
        have q4 := hqx.at_ 4 rfl
        have q5 := hqx.at_ 5 rfl
        have q6 := hqx.at_ 6 rfl
        have q7 := hqx.at_ 7 rfl
        have q8 := hqx.at_ 8 rfl
        have q9 := hqx.at_ 9 rfl
        have q10 := hqx.at_ 10 rfl
        clear hqx
        go_wp2_with fail
        refine CK2.o.mono ?_
        rintro e w7 ⟨rfl, hb7⟩
        have HB7 := hd (HB6.o.trans (hb7.mono HB6.o.size))
        clear hb7
        go_wp2
        go_ret
        exact ⟨rfl, HB7.o⟩
      · obtain ⟨w6, hw6⟩ : ∃ w6, w6 = ((w5.setCell ⟨g, p * 5 + 3, none⟩ (.int .i64 9)).setCell ⟨g, p * 5 + 4, none⟩ (.int .i64 0)) := ⟨_, rfl⟩
        have HR6 := hd (show Row w6 (From w.heap.size) 43 5 (some ⟨g, 0, none⟩) k c (opsE (L.set p ⟨false, uidN p, cardN p, 9, 0⟩)) by rw [hw6]; have := ((HR5.o.set1 (p * 5 + 3) (.int .i64 9) (HI5.o 3 (by decide))).set1 (p * 5 + 4) (.int .i64 0) (HI5.o 4 (by decide))); rw [show ((opsE L).set (p * 5 + 3) (.int .i64 9)).set (p * 5 + 4) (.int .i64 0) = opsE (L.set p ⟨false, uidN p, cardN p, 9, 0⟩) from by rw [opsE_set L p hpl ⟨false, uidN p, cardN p, 9, 0⟩ 3 _ (by rw [HLP.o]; rfl) (by decide), opsE_set (L.set p ⟨false, uidN p, cardN p, 9, 0⟩) p (by rw [List.length_set]; exact hpl) ⟨false, uidN p, cardN p, 9, 0⟩ 4 _ (by rw [List.getElem_set_self]; rfl) (by decide), List.set_set]] at this; exact this)
        have HQ6 := hd (show Blk w6 G 26 (homeC (some ⟨g, 0, none⟩) k c) by rw [hw6]; exact ((HQ5.o.far (p := ⟨g, p * 5 + 3, none⟩) (fun h => HGG2.o h.symm) (.int .i64 9)).far (p := ⟨g, p * 5 + 4, none⟩) (fun h => HGG2.o h.symm) (.int .i64 0)))
        have HB6 := hd (show Below w.heap.size w w6 by rw [hw6]; exact ((HB5.o.setCell (p := ⟨g, p * 5 + 3, none⟩) HGS.o (.int .i64 9)).setCell (p := ⟨g, p * 5 + 4, none⟩) HGS.o (.int .i64 0)))
        have CK2 := HCN.o (L.set p ⟨false, uidN p, cardN p, 9, 0⟩) (by rw [List.length_set]; exact HLK.o) (fun o ho => by
          rcases List.mem_or_eq_of_mem_set ho with ho | ho
          · exact HOL.o o ho
          · rw [ho]; exact ⟨(opN_len p).1, (opN_len p).2⟩) w6 (some ⟨g, 0, none⟩) c HB6.o HR6.o.rds
        rw [show chk (reqB (L.set p ⟨false, uidN p, cardN p, 9, 0⟩)) = 1 by rw [← HLL.o]; exact chk_spoilt hpN hN8 ⟨false, uidN p, cardN p, 9, 0⟩ 1 (.inr (.inl ⟨rfl, uidN_ok p, by show (isB (cardN p) && mayP 9 0) = false; rw [show mayP 9 0 = false by decide, Bool.and_false], rfl⟩))] at CK2
        unfold homeC at CK2
        replace CK2 := hd CK2
        have HW6 := hd hw6
        clear hw6
        go_upto_region 21 with (fail)
        rw [← HW6.o]
        clear q7 c0_ f0_ c1_ f1_ c2_ f2_ c3_ f3_ c4_ f4_
        have hqx : Blk w6 G 26 #[.int .i64 7, .string ⟨#[]⟩, .string ⟨#[104, 111, 109, 101]⟩, .string ⟨#[]⟩, .string ⟨#[]⟩, .int .i64 0, .int .i64 0, .slice (some ⟨g, 0, none⟩) k c, .int .i64 0, .int .i64 0, .int .i64 0] := HQ6.o
        have q0 := hqx.at_ 0 rfl
        have q1 := hqx.at_ 1 rfl
        have q2 := hqx.at_ 2 rfl
        have q3 := hqx.at_ 3 rfl
        have q4 := hqx.at_ 4 rfl
        have q5 := hqx.at_ 5 rfl
        have q6 := hqx.at_ 6 rfl
        have q7 := hqx.at_ 7 rfl
        have q8 := hqx.at_ 8 rfl
        have q9 := hqx.at_ 9 rfl
        have q10 := hqx.at_ 10 rfl
        clear hqx
        go_wp2_with fail
        refine CK2.o.mono ?_
        rintro e w7 ⟨rfl, hb7⟩
        have HB7 := hd (HB6.o.trans (hb7.mono HB6.o.size))
        clear hb7
        go_wp2
        go_ret
        exact ⟨rfl, HB7.o⟩

end Go.Proofs.YtogjokofmfpmgaaGreatDoor
