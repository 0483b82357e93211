/-
  Requests: formed.
-/
import Derived.Test.YtogjokofmfpmgaaGreatDoorGAN
import Derived.Test.YtogjokofmfpmgaaGreatDoorGAJ
import Derived.Test.YtogjokofmfpmgaaGreatDoorGAI
import Derived.Deep.CutRange
set_option linter.unusedVariables false
set_option linter.unusedSimpArgs false
namespace Go.Proofs.YtogjokofmfpmgaaGreatDoor
open Go.RowKit

theorem shapeC {k : Int} (h : isK k = true) : (hCd k = true ∧ hCn k = true) ∨ (hCd k = false ∧ hCn k = true) ∨ (hCd k = false ∧ hCn k = false) := by
  rcases kind_or h with rfl | rfl | rfl | rfl | rfl | rfl | rfl | rfl | rfl | rfl | rfl <;> decide
def forA (h4 h5 i4 m5 : Bool) : Bool := (!h4 || i4) && (!h5 || m5)
noncomputable def forO (o : OpV) : Bool := (o.del || isB o.card) && mayP o.ck o.cv
noncomputable def forC (ops : List OpV) : Bool := ops.all forO
theorem for_parts (q : Rq) : formedB q = (forA (hCd q.k) (hCn q.k) (isB q.card) (mayP q.ck q.cv) && forC q.ops) := by
  unfold formedB forA forC forO
  rfl

set_option maxRecDepth 100000 in
set_option maxHeartbeats 8000000 in
theorem formed_calls (q : Rq) (A : Option Addr) (c : Nat) (h : isK q.k = true) (w : World) (ht : Tbs w) (hr : Rds w A q.ops.length 5 (opsE q.ops)) (hs : RqS q) :
    Calls Tryz.prog 68 #[reqV q A c, .agg (hasE q.k).toArray] w fun e w' => e = .returned (.bool (formedB q)) ∧ Below w.heap.size w w' := by
  have hsa := shapeC h
  have hb := hs.ops
  have C1 := fun W (h : Below w.heap.size w W) => cis_calls (bs q.card) (by rw [bs_size]; exact hs.card) W (ht.below h)
  have C2 := fun W => cmay_calls W q.ck q.cv
  have C4 := hd (fun o (ho : o ∈ q.ops) W (h : Below w.heap.size w W) => cis_calls (bs o.card) (by rw [bs_size]; exact (hs.op o ho).2) W (ht.below h))
  rw [bs_data] at C1
  obtain ⟨sb, hsq⟩ : ∃ sb, formedB q = sb := ⟨_, rfl⟩
  rw [hsq]
  rw [for_parts q] at hsq
  obtain ⟨k, tn, col, uid, card, ck, cv, ops, tok, most, ticks⟩ := q
  simp only at *
  unfold reqV reqE hasE
  simp only
  generalize hT k = h1 at *
  generalize hC k = h2 at *
  generalize hU k = h3 at *
  generalize hCd k = h4 at *
  generalize hCn k = h5 at *
  generalize hO k = h6 at *
  generalize hTk k = h7 at *
  generalize hM k = h8 at *
  generalize hTi k = h9 at *
  change ∀ W, Below w.heap.size w W → Calls Tryz.prog 88 #[.string (bs card)] W fun e w' => e = .returned (.bool (isB card)) ∧ Below W.heap.size W w' at C1
  generalize isB card = i4 at *
  generalize mayP ck cv = m5 at *
  obtain ⟨sa, hA⟩ : ∃ sa, forA h4 h5 i4 m5 = sa := ⟨_, rfl⟩
  rw [hA] at hsq
  have HS := hd hsq
  have HA := hd hA
  replace C1 := hd C1
  replace C2 := hd C2
  obtain ⟨n, hn⟩ : ∃ n, ops.length = n := ⟨_, rfl⟩
  have HN := hd hn
  rw [hn] at hr hb ⊢
  have HR := hd hr
  clear hA hsq hn hr hs ht
  obtain ⟨X, hX⟩ : ∃ X, X = (w.alloc (.cells #[.int .i64 k, .string (bs tn), .string (bs col), .string (bs uid), .string (bs card), .int .i64 ck, .int .i64 cv, .slice A n c, .int .i64 tok, .int .i64 most, .int .i64 ticks] 26)).alloc (.cells #[.bool h1, .bool h2, .bool h3, .bool h4, .bool h5, .bool h6, .bool h7, .bool h8, .bool h9] 78) := ⟨_, rfl⟩
  have q1 : Blk X w.heap.size 26 #[.int .i64 k, .string (bs tn), .string (bs col), .string (bs uid), .string (bs card), .int .i64 ck, .int .i64 cv, .slice A n c, .int .i64 tok, .int .i64 most, .int .i64 ticks] := by rw [hX]; exact (Blk.new _ _ _).alloc _
  have q2 : Blk X (w.heap.size + 1) 78 #[.bool h1, .bool h2, .bool h3, .bool h4, .bool h5, .bool h6, .bool h7, .bool h8, .bool h9] := by rw [hX]; exact Blk.new_ _ _ (by simp) _ _
  have HBX := hd (show Below w.heap.size w X by rw [hX]; exact twoB _ _ _)
  have r4 := q1.at_ 4 rfl
  have r5 := q1.at_ 5 rfl
  have r6 := q1.at_ 6 rfl
  have t3 := q2.at_ 3 rfl
  have t4 := q2.at_ 4 rfl
  have Q1 := hd q1
  have Q2 := hd q2
  have hl1 := q1.lt
  have hl2 := q2.lt
  have HX := hd hX
  clear q1 q2 hX
  go_enter Tryz.func68, Tryz.ntmps68
  go_upto_region 1 with (fail)
  rw [← HX.o]
  go_cut [0, 1, 24] from 7 to 24 (fun _ _ s24 wx => s24 = .bool (!sa) ∧ Hd (Below X.heap.size X wx))
  case first =>
    clear h
    rcases hsa with ⟨rfl, rfl⟩ | ⟨rfl, rfl⟩ | ⟨rfl, rfl⟩
    · go_wp2_with fail
      refine (C1.o _ HBX.o).mono ?_
      rintro e w1 ⟨rfl, hb1⟩
      have HB1 := hd hb1
      cases i4 with
      | false =>
        obtain rfl := HA.o
        clear hb1
        go_wp2_with fail
        go_meet
        exact ⟨by cases m5 <;> rfl, HB1⟩
      | true =>
        have r5' := (Q1.o.below hb1 hl1).at_ 5 rfl
        have r6' := (Q1.o.below hb1 hl1).at_ 6 rfl
        have t4' := (Q2.o.below hb1 hl2).at_ 4 rfl
        clear hb1 r5 r6 t4 r4 t3
        go_wp2_with fail
        refine (C2.o _).mono ?_
        rintro e w2 ⟨rfl, hb2⟩
        have HB2 := hd (HB1.o.trans (hb2.mono HB1.o.size))
        clear hb2
        go_wp2_with fail
        go_meet
        exact ⟨by rw [← HA.o]; rfl, HB2⟩
    · go_wp2_with fail
      refine (C2.o _).mono ?_
      rintro e w2 ⟨rfl, hb2⟩
      have HB2 := hd hb2
      clear hb2
      go_wp2_with fail
      go_meet
      exact ⟨by rw [← HA.o]; rfl, HB2⟩
    · go_wp2_with fail
      go_meet
      exact ⟨by rw [← HA.o]; rfl, hd (Below.refl _ _)⟩
  case rest =>
  obtain ⟨rfl, HBW⟩ := hcut
  have r7 := (Q1.o.below HBW.o hl1).at_ 7 rfl
  replace HBX := hd (HBX.o.trans (HBW.o.mono HBX.o.size))
  cases sa with
  | false =>
    go_wp2
    go_ret
    exact ⟨ret_bool (by rw [← HS.o]; rfl), HBX.o⟩
  | true =>
  have HS2 := hd (show forC ops = sb by rw [← HS.o]; rfl)
  have hlc := Nat.lt_of_lt_of_le hl1 HBW.o.size
  clear hsa t3 t4 r4 r5 r6 C1 C2 HA hl1 hl2 HBW
  go_wp2_with fail
  go_loopw [28, 6] (fun i _ wr => ∃ k : Nat, i = .int .i64 k ∧ k ≤ n ∧ Hd (forC (ops.take k) = true) ∧ Hd (Below w.heap.size w wr) ∧ Hd (Below wc.heap.size wc wr)) (fun i _ _ => n - (intOf i).toNat)
  case atStart => exact ⟨0, rfl, Nat.zero_le _, hd rfl, HBX, hd (Below.refl _ _)⟩
  case round =>
    obtain ⟨k, rfl, hk, HV, HB, HBC⟩ := hrel
    have hki : (0 : Int) ≤ (k : Int) := by omega
    by_cases hlt : k < n
    · have hlti : (k : Int) < (n : Int) := by omega
      have hkl : k < ops.length := by rw [HN.o]; exact hlt
      obtain ⟨g, o, rfl, hg, hc⟩ := HR.o.at_ (by omega)
      obtain ⟨x, hx⟩ : ∃ x, ops[k]'hkl = x := ⟨_, rfl⟩
      have HT : Hd (ops.take (k + 1) = ops.take k ++ [x]) := hd (by rw [List.take_succ_eq_append_getElem hkl, hx])
      have hmem : x ∈ ops := by rw [← hx]; exact List.getElem_mem hkl
      have HMEM := hd hmem
      have hcell : ∀ j u, j < 5 → (opEnc x)[j]? = some u → wr.cell? ⟨g, o + (k * 5 + j), none⟩ = some u := fun j u hj hv => (HB.o.cell (p := ⟨g, o + (k * 5 + j), none⟩) hg).trans (hc _ _ ((opsE_at ops k hkl j hj).trans (by rw [hx]; exact hv)))
      obtain ⟨xd, xu, xc, xk, xv⟩ := x
      have k0 := hcell 0 _ (by omega) rfl
      have k1 := hcell 1 _ (by omega) rfl
      have k2 := hcell 2 _ (by omega) rfl
      have k3 := hcell 3 _ (by omega) rfl
      have k4 := hcell 4 _ (by omega) rfl
      rw [← Nat.add_assoc] at k0 k1 k2 k3 k4
      rw [Nat.add_zero] at k0
      have HA := hd (HB.o.alloc HB.o.size (.cells #[.bool xd, .string (bs xu), .string (bs xc), .int .i64 xk, .int .i64 xv] 43))
      have HAC := hd (HBC.o.alloc HBC.o.size (.cells #[.bool xd, .string (bs xu), .string (bs xc), .int .i64 xk, .int .i64 xv] 43))
      have HBK := hd (Blk.new wr 43 #[.bool xd, .string (bs xu), .string (bs xc), .int .i64 xk, .int .i64 xv])
      have K4 := C4.o _ hmem _ HA.o
      rw [bs_data] at K4
      have HBAD := hd (show forO ⟨xd, xu, xc, xk, xv⟩ = false → sb = false from fun h => by
        rw [← HS2.o, forC]
        exact List.all_eq_false.2 ⟨_, HMEM.o, by simp [h]⟩)
      have HGO := hd (show forO ⟨xd, xu, xc, xk, xv⟩ = true → forC (ops.take (k + 1)) = true from fun h => by
        have := HV.o
        unfold forC at *
        rw [HT.o, List.all_append, this]
        simpa using h)
      unfold forO at HBAD HGO
      simp only at HBAD HGO
      change Calls Tryz.prog 88 #[.string (bs xc)] (wr.alloc (.cells #[.bool xd, .string (bs xu), .string (bs xc), .int .i64 xk, .int .i64 xv] 43)) fun e w' => e = .returned (.bool (isB xc)) ∧ Below (wr.alloc (.cells #[.bool xd, .string (bs xu), .string (bs xc), .int .i64 xk, .int .i64 xv] 43)).heap.size (wr.alloc (.cells #[.bool xd, .string (bs xu), .string (bs xc), .int .i64 xk, .int .i64 xv] 43)) w' at K4
      generalize isB xc = ib at *
      have K5 := fun W => cmay_calls W xk xv
      generalize mayP xk xv = mb at *
      replace K4 := hd K4
      replace K5 := hd K5
      clear hcell hc hx hkl hmem
      cases xd with
      | true =>
        cases mb with
        | true =>
          have HG := hd (HGO.o rfl)
          go_wp2_with fail
          refine (K5.o _).mono ?_
          rintro e w2 ⟨rfl, hb2⟩
          have HB2 := hd (HA.o.trans (hb2.mono HA.o.size))
          have HB3 := hd (HAC.o.trans (hb2.mono HAC.o.size))
          clear hb2
          go_wp2
          go_roundw
          case rel => ((repeat apply Exists.intro); exact ⟨⟨k + 1, by go_num, by omega, HG, HB2, HB3⟩, rfl⟩)
          case measure => simp [intOf]; omega
        | false =>
          have HG := hd (HBAD.o rfl)
          go_wp2_with fail
          refine (K5.o _).mono ?_
          rintro e w2 ⟨rfl, hb2⟩
          have HB2 := hd (HA.o.trans (hb2.mono HA.o.size))
          clear hb2
          go_wp2
          go_ret
          exact ⟨ret_bool HG.o.symm, HB2.o⟩
      | false =>
        cases ib with
        | false =>
          have HG := hd (HBAD.o rfl)
          go_wp2_with fail
          refine K4.o.mono ?_
          rintro e w2 ⟨rfl, hb2⟩
          have HB2 := hd (HA.o.trans (hb2.mono HA.o.size))
          clear hb2
          go_wp2
          go_ret
          exact ⟨ret_bool HG.o.symm, HB2.o⟩
        | true =>
          go_wp2_with fail
          refine K4.o.mono ?_
          rintro e w2 ⟨rfl, hb2⟩
          have HB2 := hd (HA.o.trans (hb2.mono HA.o.size))
          have HB3 := hd (HAC.o.trans (hb2.mono HAC.o.size))
          have hx := HBK.o.below hb2 (by simp)
          have m3 := hx.at_ 3 rfl
          have m4 := hx.at_ 4 rfl
          clear hb2 hx
          go_wp2_with fail
          refine (K5.o _).mono ?_
          rintro e w3 ⟨rfl, hb3⟩
          have HB4 := hd (HB2.o.trans (hb3.mono HB2.o.size))
          have HB5 := hd (HB3.o.trans (hb3.mono HB3.o.size))
          clear hb3
          cases mb with
          | true =>
            have HG := hd (HGO.o rfl)
            go_wp2
            go_roundw
            case rel => ((repeat apply Exists.intro); exact ⟨⟨k + 1, by go_num, by omega, HG, HB4, HB5⟩, rfl⟩)
            case measure => simp [intOf]; omega
          | false =>
            have HG := hd (HBAD.o rfl)
            go_wp2
            go_ret
            exact ⟨ret_bool HG.o.symm, HB4.o⟩
    · obtain rfl : k = n := by omega
      have HE : Hd (sb = true) := hd (by
        rw [← HS2.o, ← HV.o, List.take_of_length_le (by rw [HN.o]; exact Nat.le_refl _)])
      go_wp2
      go_ret
      exact ⟨ret_bool HE.o.symm, HB.o⟩

end Go.Proofs.YtogjokofmfpmgaaGreatDoor
namespace Go.Proofs.YtogjokofmfpmgaaGreatDoor
open Go.RowKit

theorem chk_12 {q : Rq} (h : isK q.k = false) : chk q = 12 := by unfold chk; rw [if_pos h]
theorem chk_s {q : Rq} (h : isK q.k = true) (h2 : strayB q = true) : chk q = 1 := by unfold chk; rw [if_neg (by rw [h]; decide), if_pos h2]
theorem chk_n {q : Rq} (h : isK q.k = true) (h2 : strayB q = false) (h3 : namedB q = false) : chk q = 3 := by unfold chk; rw [if_neg (by rw [h]; decide), if_neg (by rw [h2]; decide), if_pos h3]
theorem chk_f {q : Rq} (h : isK q.k = true) (h2 : strayB q = false) (h3 : namedB q = true) (h4 : formedB q = false) : chk q = 1 := by unfold chk; rw [if_neg (by rw [h]; decide), if_neg (by rw [h2]; decide), if_neg (by rw [h3]; decide), if_pos h4]
theorem chk_o {q : Rq} (h : isK q.k = true) (h2 : strayB q = false) (h3 : namedB q = true) (h4 : formedB q = true) : chk q = if outB q = true then 12 else 0 := by unfold chk; rw [if_neg (by rw [h]; decide), if_neg (by rw [h2]; decide), if_neg (by rw [h3]; decide), if_neg (by rw [h4]; decide)]

set_option maxRecDepth 100000 in
set_option maxHeartbeats 8000000 in
theorem check_calls (q : Rq) (A : Option Addr) (c : Nat) (w : World) (ht : Tbs w) (hr : Rds w A q.ops.length 5 (opsE q.ops)) (hs : RqS q) :
    Calls Tryz.prog 19 #[reqV q A c] w fun e w' => e = .returned (.int .i64 (chk q)) ∧ Below w.heap.size w w' := by
  cases hk : isK q.k with
  | false =>
    have C0 := fun W => isk_calls q.k W
    rw [hk] at C0
    have HV := hd (chk_12 hk)
    replace C0 := hd C0
    unfold reqV reqE
    generalize hX : chk q = X at *
    obtain ⟨k, tn, col, uid, card, ck, cv, ops, tok, most, ticks⟩ := q
    simp only at *
    obtain rfl := HV.o
    generalize ops.length = n at *
    clear hr hs hk ht hX
    go_enter Tryz.func19, Tryz.ntmps19
    go_wp2_with (go_at_call 51; refine (C0.o _).mono ?_; rintro e w' ⟨rfl, rfl⟩)
    go_ret
    exact ⟨rfl, (Below.refl _ w).alloc (Nat.le_refl _) _⟩
  | true =>
    have C0 := fun W => isk_calls q.k W
    rw [hk] at C0
    have C1 := hd (fun W => fields_calls q.k hk W)
    have C2 := hd (fun W (h : Below w.heap.size w W) => stray_calls q A c hk W (hr.below h) hs.ops)
    have C3 := hd (fun W (h : Below w.heap.size w W) => named_calls q A c hk W (hr.below h) hs)
    have C4 := hd (fun W (h : Below w.heap.size w W) => formed_calls q A c hk W (ht.below h) (hr.below h) hs)
    have HV1 := hd (fun h => chk_s hk h)
    have HV2 := hd (fun h h2 => chk_n hk h h2)
    have HV3 := hd (fun h h2 h3 => chk_f hk h h2 h3)
    have HV4 := hd (fun h h2 h3 => chk_o hk h h2 h3)
    have hsb := shapeB hk
    have hob : outB q = ((hO q.k && (decide (q.ops.length < 1) || decide (8 < q.ops.length))) || decide (q.tok < 0) || (hM q.k && (decide (q.most < 1) || decide (1000 < q.most))) || decide (q.ticks < 0) || decide (1048576 < q.ticks)) := rfl
    replace C0 := hd C0
    unfold reqV reqE hasE at *
    generalize chk q = X at *
    generalize strayB q = x1 at *
    generalize namedB q = x2 at *
    generalize formedB q = x3 at *
    generalize outB q = x4 at *
    obtain ⟨k, tn, col, uid, card, ck, cv, ops, tok, most, ticks⟩ := q
    simp only at *
    generalize hT k = h1 at *
    generalize hC k = h2 at *
    generalize hU k = h3 at *
    generalize hCd k = h4 at *
    generalize hCn k = h5 at *
    generalize hO k = h6 at *
    generalize hTk k = h7 at *
    generalize hM k = h8 at *
    generalize hTi k = h9 at *
    have hnm := hs.ops
    simp only at hnm
    generalize ops.length = n at *
    have HOB := hd hob
    clear hr hs hk ht hob
    obtain ⟨Y, hY⟩ : ∃ Y, Y = w.alloc (.cells #[.int .i64 k, .string (bs tn), .string (bs col), .string (bs uid), .string (bs card), .int .i64 ck, .int .i64 cv, .slice A n c, .int .i64 tok, .int .i64 most, .int .i64 ticks] 26) := ⟨_, rfl⟩
    have hbk : Blk Y w.heap.size 26 #[.int .i64 k, .string (bs tn), .string (bs col), .string (bs uid), .string (bs card), .int .i64 ck, .int .i64 cv, .slice A n c, .int .i64 tok, .int .i64 most, .int .i64 ticks] := by rw [hY]; exact Blk.new _ _ _
    have HBY := hd (show Below w.heap.size w Y by rw [hY]; exact (Below.refl _ w).alloc (Nat.le_refl _) _)
    have q0 := hbk.at_ 0 rfl
    have hl0 := hbk.lt
    have HK := hd hbk
    have HYY := hd hY
    clear hbk hY
    go_enter Tryz.func19, Tryz.ntmps19
    go_upto_region 1 with (fail)
    rw [← HYY.o]
    go_wp2_with (go_at_call 51; refine (C0.o _).mono ?_; rintro e w' ⟨rfl, rfl⟩)
    refine (C1.o _).mono ?_
    rintro e w1 ⟨rfl, hb1⟩
    have hk1 := HK.o.below hb1 HK.o.lt
    have HB1 := hd (HBY.o.trans (hb1.mono HBY.o.size))
    obtain ⟨Z, hZ⟩ : ∃ Z, Z = w1.alloc (.cells #[.bool h1, .bool h2, .bool h3, .bool h4, .bool h5, .bool h6, .bool h7, .bool h8, .bool h9] 78) := ⟨_, rfl⟩
    have hkz : Blk Z w.heap.size 26 #[.int .i64 k, .string (bs tn), .string (bs col), .string (bs uid), .string (bs card), .int .i64 ck, .int .i64 cv, .slice A n c, .int .i64 tok, .int .i64 most, .int .i64 ticks] := by rw [hZ]; exact hk1.alloc _
    have hhz : Blk Z w1.heap.size 78 #[.bool h1, .bool h2, .bool h3, .bool h4, .bool h5, .bool h6, .bool h7, .bool h8, .bool h9] := by rw [hZ]; exact Blk.new _ _ _
    have HBZ := hd (show Below w.heap.size w Z by rw [hZ]; exact HB1.o.alloc HB1.o.size _)
    have HZZ := hd hZ
    have HKZ := hd hkz
    have HHZ := hd hhz
    have a0 := hkz.at_ 0 rfl
    have a1 := hkz.at_ 1 rfl
    have a2 := hkz.at_ 2 rfl
    have a3 := hkz.at_ 3 rfl
    have a4 := hkz.at_ 4 rfl
    have a5 := hkz.at_ 5 rfl
    have a6 := hkz.at_ 6 rfl
    have a7 := hkz.at_ 7 rfl
    have a8 := hkz.at_ 8 rfl
    have a9 := hkz.at_ 9 rfl
    have a10 := hkz.at_ 10 rfl
    have e0 := hhz.at_ 0 rfl
    have e1 := hhz.at_ 1 rfl
    have e2 := hhz.at_ 2 rfl
    have e3 := hhz.at_ 3 rfl
    have e4 := hhz.at_ 4 rfl
    have e5 := hhz.at_ 5 rfl
    have e6 := hhz.at_ 6 rfl
    have e7 := hhz.at_ 7 rfl
    have e8 := hhz.at_ 8 rfl
    have la := hkz.lt
    have le := hhz.lt
    clear hb1 hk1 hZ hkz hhz q0 hl0 C0 C1 HK HYY
    go_upto_region 4 with (fail)
    rw [← HZZ.o]
    go_wp2_with fail
    refine (C2.o _ HBZ.o).mono ?_
    rintro e w2 ⟨rfl, hb2⟩
    have HB2 := hd (HBZ.o.trans (hb2.mono HBZ.o.size))
    have hk2 := HKZ.o.below hb2 la
    have hh2 := HHZ.o.below hb2 le
    clear a0 a1 a2 a3 a4 a5 a6 a7 a8 a9 a10 e0 e1 e2 e3 e4 e5 e6 e7 e8 la le hb2 HBZ
    cases x1 with
    | true =>
      have HV := hd (HV1.o (by first | rfl | trivial))
      go_wp2
      go_ret
      exact ⟨ret_int HV.o.symm, HB2.o⟩
    | false =>
      have HK2 := hd hk2
      have HH2 := hd hh2
      have a0 := hk2.at_ 0 rfl
      have a1 := hk2.at_ 1 rfl
      have a2 := hk2.at_ 2 rfl
      have a3 := hk2.at_ 3 rfl
      have a4 := hk2.at_ 4 rfl
      have a5 := hk2.at_ 5 rfl
      have a6 := hk2.at_ 6 rfl
      have a7 := hk2.at_ 7 rfl
      have a8 := hk2.at_ 8 rfl
      have a9 := hk2.at_ 9 rfl
      have a10 := hk2.at_ 10 rfl
      have e0 := hh2.at_ 0 rfl
      have e1 := hh2.at_ 1 rfl
      have e2 := hh2.at_ 2 rfl
      have e3 := hh2.at_ 3 rfl
      have e4 := hh2.at_ 4 rfl
      have e5 := hh2.at_ 5 rfl
      have e6 := hh2.at_ 6 rfl
      have e7 := hh2.at_ 7 rfl
      have e8 := hh2.at_ 8 rfl
      have la := hk2.lt
      have le := hh2.lt
      clear hk2 hh2
      go_wp2_with fail
      refine (C3.o _ HB2.o).mono ?_
      rintro e w3 ⟨rfl, hb3⟩
      have HB3 := hd (HB2.o.trans (hb3.mono HB2.o.size))
      have hk3 := HK2.o.below hb3 la
      have hh3 := HH2.o.below hb3 le
      clear a0 a1 a2 a3 a4 a5 a6 a7 a8 a9 a10 e0 e1 e2 e3 e4 e5 e6 e7 e8 la le hb3
      cases x2 with
      | false =>
        have HV := hd (HV2.o (by first | rfl | trivial) (by first | rfl | trivial))
        go_wp2
        go_ret
        exact ⟨ret_int HV.o.symm, HB3.o⟩
      | true =>
        have HK3 := hd hk3
        have HH3 := hd hh3
        have a0 := hk3.at_ 0 rfl
        have a1 := hk3.at_ 1 rfl
        have a2 := hk3.at_ 2 rfl
        have a3 := hk3.at_ 3 rfl
        have a4 := hk3.at_ 4 rfl
        have a5 := hk3.at_ 5 rfl
        have a6 := hk3.at_ 6 rfl
        have a7 := hk3.at_ 7 rfl
        have a8 := hk3.at_ 8 rfl
        have a9 := hk3.at_ 9 rfl
        have a10 := hk3.at_ 10 rfl
        have e0 := hh3.at_ 0 rfl
        have e1 := hh3.at_ 1 rfl
        have e2 := hh3.at_ 2 rfl
        have e3 := hh3.at_ 3 rfl
        have e4 := hh3.at_ 4 rfl
        have e5 := hh3.at_ 5 rfl
        have e6 := hh3.at_ 6 rfl
        have e7 := hh3.at_ 7 rfl
        have e8 := hh3.at_ 8 rfl
        have la := hk3.lt
        have le := hh3.lt
        clear hk3 hh3
        go_wp2_with fail
        refine (C4.o _ HB3.o).mono ?_
        rintro e w4 ⟨rfl, hb4⟩
        have HB4 := hd (HB3.o.trans (hb4.mono HB3.o.size))
        have hk4 := HK3.o.below hb4 la
        have hh4 := HH3.o.below hb4 le
        clear a0 a1 a2 a3 a4 a5 a6 a7 a8 a9 a10 e0 e1 e2 e3 e4 e5 e6 e7 e8 la le hb4
        cases x3 with
        | false =>
          have HV := hd (HV3.o (by first | rfl | trivial) (by first | rfl | trivial) (by first | rfl | trivial))
          go_wp2
          go_ret
          exact ⟨ret_int HV.o.symm, HB4.o⟩
        | true =>
          have HV := hd (HV4.o (by first | rfl | trivial) (by first | rfl | trivial) (by first | rfl | trivial))
          have a7 := hk4.at_ 7 rfl
          have a8 := hk4.at_ 8 rfl
          have a9 := hk4.at_ 9 rfl
          have a10 := hk4.at_ 10 rfl
          have e5 := hh4.at_ 5 rfl
          have e7 := hh4.at_ 7 rfl
          have la := hk4.lt
          have le := hh4.lt
          clear hk4 hh4 C2 C3 C4 HV1 HV2 HV3 HV4
          have HNO := hd (show x4 = true → X = 12 from fun h => by rw [HV.o, if_pos h])
          have HYES := hd (show x4 = false → X = 0 from fun h => by rw [HV.o, if_neg (by rw [h]; decide)])
          rcases hsb with ⟨rfl, rfl, rfl, rfl⟩ | ⟨rfl, rfl, rfl, rfl⟩ | ⟨rfl, rfl, rfl, rfl⟩ | ⟨rfl, rfl, rfl, rfl⟩
          all_goals
            go_wp2
            all_goals first
              | (exfalso; omega)
              | (go_ret; exact ⟨ret_int (HNO.o (by rw [HOB.o]; simp; omega)).symm, HB4.o⟩)
              | (go_ret; exact ⟨ret_int (HYES.o (by rw [HOB.o]; simp; omega)).symm, HB4.o⟩)

end Go.Proofs.YtogjokofmfpmgaaGreatDoor
namespace Go.Proofs.YtogjokofmfpmgaaGreatDoor
open Go.RowKit

structure Ss where
  room : Int
  buf : List UInt8
  closed : Bool
  tn : List UInt8
  seq : Int
  broken : Bool
structure Tn where
  what : Int
  seq : Int
  k : Int
  q : Rq
  e : Int
def newS (room : Int) : Ss := ⟨max room 0, [], false, [], 0, false⟩
def tn0 (w : Int) : Tn := ⟨w, 0, 0, rq0, 0⟩
def lookW (s : Ss) : Int := if s.broken = true then 4 else if frE s.buf = 14 then (if s.closed = true then 4 else 0) else if frE s.buf = 0 then 1 else 3
def readyS (s : Ss) : Bool := decide (lookW s ≠ 0)
def kindS (s : Ss) : Int := if 1 ≤ frK s.buf ∧ frK s.buf ≤ 11 then frK s.buf else 0
noncomputable def errS (s : Ss) : Int := if (decQ (frK s.buf) (frB s.buf)).2 ≠ 0 then (decQ (frK s.buf) (frB s.buf)).2 else if ((decQ (frK s.buf) (frB s.buf)).1.k = 1) ↔ (s.tn ≠ []) then 10 else 0
def goS (s : Ss) : Ss := { s with seq := s.seq + 1, buf := s.buf.drop (frN s.buf) }
noncomputable def nextS (s : Ss) : Tn × Ss :=
  if lookW s = 0 ∨ lookW s = 4 then (tn0 (lookW s), s)
  else if lookW s = 3 then (⟨3, s.seq + 1, 0, rq0, frE s.buf⟩, { s with seq := s.seq + 1, broken := true })
  else if errS s ≠ 0 then (⟨2, s.seq + 1, kindS s, rq0, errS s⟩, goS s)
  else (⟨1, s.seq + 1, kindS s, (decQ (frK s.buf) (frB s.buf)).1, 0⟩, if (decQ (frK s.buf) (frB s.buf)).1.k = 1 then { goS s with tn := (decQ (frK s.buf) (frB s.buf)).1.tn } else goS s)
def mayFeed (s : Ss) (b : List UInt8) : Bool := !s.closed && decide ((b.length : Int) ≤ s.room - s.buf.length)
def feedS (s : Ss) (b : List UInt8) : Ss := if mayFeed s b = true then { s with buf := s.buf ++ b } else s
def halfS (s : Ss) : Ss := { s with closed := true }

theorem look_or (s : Ss) : lookW s = 0 ∨ lookW s = 4 ∨ (lookW s = 3 ∧ s.broken = false ∧ frE s.buf ≠ 0 ∧ frE s.buf ≠ 14) ∨ (lookW s = 1 ∧ s.broken = false ∧ frE s.buf = 0) := by
  unfold lookW
  by_cases h1 : s.broken = true
  · rw [if_pos h1]; exact .inr (.inl rfl)
  · rw [if_neg h1]
    have h1 : s.broken = false := by simpa using h1
    by_cases h2 : frE s.buf = 14
    · rw [if_pos h2]
      by_cases h3 : s.closed = true
      · rw [if_pos h3]; exact .inr (.inl rfl)
      · rw [if_neg h3]; exact .inl rfl
    · rw [if_neg h2]
      by_cases h3 : frE s.buf = 0
      · rw [if_pos h3]; exact .inr (.inr (.inr ⟨rfl, h1, h3⟩))
      · rw [if_neg h3]; exact .inr (.inr (.inl ⟨rfl, h1, h3, h2⟩))
theorem next_0 {s : Ss} (h : lookW s = 0) : nextS s = (tn0 0, s) := by unfold nextS; rw [if_pos (.inl h), h]
theorem next_4 {s : Ss} (h : lookW s = 4) : nextS s = (tn0 4, s) := by unfold nextS; rw [if_pos (.inr h), h]
theorem next_3 {s : Ss} (h : lookW s = 3) : nextS s = (⟨3, s.seq + 1, 0, rq0, frE s.buf⟩, { s with seq := s.seq + 1, broken := true }) := by
  unfold nextS; rw [if_neg (by omega), if_pos h]
theorem next_2 {s : Ss} (h : lookW s = 1) (he : errS s ≠ 0) : nextS s = (⟨2, s.seq + 1, kindS s, rq0, errS s⟩, goS s) := by
  unfold nextS; rw [if_neg (by omega), if_neg (by omega), if_pos he]
theorem next_1 {s : Ss} (h : lookW s = 1) (he : errS s = 0) : nextS s = (⟨1, s.seq + 1, kindS s, (decQ (frK s.buf) (frB s.buf)).1, 0⟩, if (decQ (frK s.buf) (frB s.buf)).1.k = 1 then { goS s with tn := (decQ (frK s.buf) (frB s.buf)).1.tn } else goS s) := by
  unfold nextS; rw [if_neg (by omega), if_neg (by omega), if_neg (by omega)]
/-- Its turn tells what it looks like. -/
theorem next_what (s : Ss) : ((nextS s).1.what = 0 ↔ lookW s = 0) ∧ ((nextS s).1.what = 4 ↔ lookW s = 4) := by
  rcases look_or s with h | h | ⟨h, _⟩ | ⟨h, _⟩
  · rw [next_0 h, h]; simp [tn0]
  · rw [next_4 h, h]; simp [tn0]
  · rw [next_3 h, h]; simp
  · by_cases he : errS s = 0
    · rw [next_1 h he, h]; simp
    · rw [next_2 h he, h]; simp
theorem err_ok {s : Ss} (h : errS s = 0) : (decQ (frK s.buf) (frB s.buf)).2 = 0 ∧ ((decQ (frK s.buf) (frB s.buf)).1.k = 1 ↔ s.tn = []) := by
  unfold errS at h
  by_cases h1 : (decQ (frK s.buf) (frB s.buf)).2 = 0
  · rw [if_neg (fun k => k h1)] at h
    refine ⟨h1, ?_⟩
    by_cases h2 : ((decQ (frK s.buf) (frB s.buf)).1.k = 1) ↔ (s.tn ≠ [])
    · rw [if_pos h2] at h; cases h
    · by_cases h3 : s.tn = []
      · exact ⟨fun _ => h3, fun _ => Classical.byContradiction fun hn => h2 ⟨fun h => absurd h hn, fun h => absurd h3 h⟩⟩
      · exact ⟨fun h4 => absurd ⟨fun _ => h3, fun _ => h4⟩ h2, fun h4 => absurd h4 h3⟩
  · rw [if_pos h1] at h; exact absurd h h1
/-- More bytes behind. -/
def moreS (s : Ss) (m : List UInt8) : Ss := { s with buf := s.buf ++ m }
end Go.Proofs.YtogjokofmfpmgaaGreatDoor
namespace Go.Proofs.YtogjokofmfpmgaaGreatDoor
open Go.RowKit

theorem feed_may {s : Ss} {b : List UInt8} (h : mayFeed s b = true) : feedS s b = moreS s b := by unfold feedS; rw [if_pos h]; rfl
/-- Bytes of a request that may be. -/
theorem numB_le {n : Int} (h : n ≤ 9223372036854775807) : (numB n).length ≤ 9 := numB_len n (by omega)
theorem textB_len {s : List UInt8} (h : s.length ≤ 20000) : (textB s).length ≤ 9 + s.length := by
  have := numB_len (s.length : Int) (by omega)
  unfold textB
  rw [List.length_append]
  omega
theorem eT_len {b : Bool} {s : List UInt8} {m : Nat} (h : b = true → s.length ≤ m) (hm : m ≤ 20000) : (eT b s).length ≤ 9 + m := by
  cases b with
  | true => have := h rfl; have := textB_len (s := s) (by omega); show (textB s).length ≤ _; omega
  | false => show ([] : List UInt8).length ≤ _; simp
theorem eN_len {b : Bool} {n : Int} (h : n ≤ 9223372036854775807) : (eN b n).length ≤ 9 := by
  cases b with
  | true => exact numB_le h
  | false => show ([] : List UInt8).length ≤ _; simp
theorem opsB_len : ∀ (L : List OpV), (∀ o ∈ L, (opB o).length ≤ 1000) → (opsB L).length ≤ L.length * 1000
  | [], _ => by simp [opsB]
  | o :: L, h => by
    have h1 := opsB_len L (fun x hx => h x (by simp [hx]))
    have h2 := h o (by simp)
    have e : opsB (o :: L) = opB o ++ opsB L := by unfold opsB; rw [List.flatMap_cons]
    rw [e, List.length_append, List.length_cons]
    omega
theorem enc_len {q : Rq} (h : chk q = 0) (hb : RqB q) : (encB q).length ≤ 12000 := by
  obtain ⟨h1, h2, h3, h4, h5⟩ := chk_0 h
  have s := (stray_iff q).1 h2
  have rr := raw_of h hb
  unfold namedB at h3
  simp only [Bool.and_eq_true, Bool.or_eq_true, Bool.not_eq_true', List.all_eq_true] at h3
  unfold formedB at h4
  simp only [Bool.and_eq_true, Bool.or_eq_true, Bool.not_eq_true', List.all_eq_true] at h4
  unfold outB at h5
  simp only [Bool.or_eq_false_iff, Bool.and_eq_false_iff, decide_eq_false_iff_not] at h5
  have w : ∀ {b : Bool} {P : Prop}, (b = false ∨ P) → b = true → P := fun h k => h.elim (fun h => by rw [k] at h; cases h) id
  have l1 := eT_len (b := hT q.k) (s := q.tn) (m := 16) (fun k => name_len (w h3.1.1.1 k)) (by decide)
  have l2 := eT_len (b := hC q.k) (s := q.col) (m := 16) (fun k => name_len (w h3.1.1.2 k)) (by decide)
  have l3 := eT_len (b := hU q.k) (s := q.uid) (m := 24) (fun k => uid_len (w h3.1.2 k)) (by decide)
  have l4 := eT_len (b := hCd q.k) (s := q.card) (m := 900) (fun k => is_len (w h4.1.1 k)) (by decide)
  have hck := hb.ck
  have hcv := hb.cv
  have l5 : (eC (hCn q.k) q.ck q.cv).length ≤ 18 := by
    cases hCn q.k with
    | true =>
      show (numB q.ck ++ numB q.cv).length ≤ _
      have := numB_le hck.2
      have := numB_le hcv.2
      rw [List.length_append]; omega
    | false => show ([] : List UInt8).length ≤ _; simp
  have l7 := eN_len (b := hTk q.k) hb.tok.2
  have l8 := eN_len (b := hM q.k) hb.most.2
  have l9 := eN_len (b := hTi q.k) hb.ticks.2
  have l6 : (eO (hO q.k) q.ops).length ≤ 8009 := by
    obtain ⟨⟨⟨⟨r1, _⟩, _⟩, _⟩, _⟩ := h5
    cases hk : hO q.k with
    | false => show ([] : List UInt8).length ≤ _; simp
    | true =>
      rw [hk] at r1
      have r2 : q.ops.length ≤ 8 := by rcases r1 with h | h; cases h; omega
      have := opsB_len q.ops (fun o ho => by
        have hu := uid_len (h3.2 o ho)
        have hf := h4.2 o ho
        have hB := hb.ops o ho
        have k1 := numB_le hB.1.2
        have k2 := numB_le hB.2.2
        have k3 := textB_len (s := o.uid) (by omega)
        have hc : o.card.length ≤ 900 := by
          rcases hf.1 with h | h
          · rw [s.del o ho h]; simp
          · exact is_len h
        have k4 := textB_len (s := o.card) (by omega)
        have k5 : (numB 0).length ≤ 9 := numB_le (by decide)
        have k6 : (numB 1).length ≤ 9 := numB_le (by decide)
        unfold opB condB
        split <;> (simp only [List.length_append]; omega))
      have k7 : (numB q.ops.length).length ≤ 9 := numB_le (by omega)
      show (numB q.ops.length ++ opsB q.ops).length ≤ _
      rw [List.length_append]
      omega
  unfold encB
  simp only [List.length_append]
  omega

/-- A session that has nothing to read. -/
structure Idle (s : Ss) : Prop where
  buf : s.buf = []
  closed : s.closed = false
  broken : s.broken = false
theorem asks_look {s : Ss} (hs : Idle s) {q : Rq} (h : chk q = 0) (hb : RqB q) : lookW (moreS s (frameB q.k.toNat (encB q))) = 1 ∧ errS (moreS s (frameB q.k.toNat (encB q))) = (if (q.k = 1 ↔ s.tn ≠ []) then 10 else 0) ∧
    decQ (frK (moreS s (frameB q.k.toNat (encB q))).buf) (frB (moreS s (frameB q.k.toNat (encB q))).buf) = (q, 0) ∧ kindS (moreS s (frameB q.k.toNat (encB q))) = q.k ∧ (goS (moreS s (frameB q.k.toNat (encB q)))) = { s with seq := s.seq + 1 } := by
  have hk : 1 ≤ q.k ∧ q.k ≤ 11 := by have := (chk_0 h).1; unfold isK at this; simpa using this
  have hl := enc_len h hb
  obtain ⟨e1, e2, e3, e4⟩ := frame_next (k := q.k.toNat) (b := encB q) (by omega) (by omega) []
  rw [List.append_nil] at e1 e2 e3 e4
  have eb : (moreS s (frameB q.k.toNat (encB q))).buf = frameB q.k.toNat (encB q) := by unfold moreS; simp [hs.buf]
  have hd : decQ (frK (moreS s (frameB q.k.toNat (encB q))).buf) (frB (moreS s (frameB q.k.toNat (encB q))).buf) = (q, 0) := by
    rw [eb, e2, e3, show ((q.k.toNat : Nat) : Int) = q.k by omega]
    exact dec_enc h hb
  refine ⟨?_, ?_, hd, ?_, ?_⟩
  · unfold lookW
    rw [eb, if_neg (by show ¬ s.broken = true; rw [hs.broken]; decide), e1, if_neg (by decide), if_pos rfl]
  · unfold errS
    rw [hd]
    rfl
  · unfold kindS
    rw [eb, e2, if_pos (by omega)]
    omega
  · unfold goS
    rw [eb, e4, List.drop_of_length_le (by rw [frameB_len]; exact Nat.le_refl _)]
    unfold moreS
    simp [hs.buf]
theorem asks_next {s : Ss} (hs : Idle s) {q : Rq} (h : chk q = 0) (hb : RqB q) :
    nextS (moreS s (frameB q.k.toNat (encB q))) = if (q.k = 1 ↔ s.tn ≠ []) then (⟨2, s.seq + 1, q.k, rq0, 10⟩, { s with seq := s.seq + 1 }) else (⟨1, s.seq + 1, q.k, q, 0⟩, if q.k = 1 then { s with seq := s.seq + 1, tn := q.tn } else { s with seq := s.seq + 1 }) := by
  obtain ⟨h1, h2, h3, h4, h5⟩ := asks_look hs h hb
  by_cases hc : q.k = 1 ↔ s.tn ≠ []
  · rw [if_pos hc] at h2 ⊢
    rw [next_2 h1 (by rw [h2]; decide), h2, h4, h5]
    rfl
  · rw [if_neg hc] at h2 ⊢
    rw [next_1 h1 h2, h3, h4, h5]
    rfl
theorem idle_look {s : Ss} (h : Idle s) : lookW s = 0 := by
  unfold lookW
  rw [h.broken, h.buf, h.closed, if_neg (by decide), if_pos (by decide), if_neg (by decide)]

end Go.Proofs.YtogjokofmfpmgaaGreatDoor
namespace Go.Proofs.YtogjokofmfpmgaaGreatDoor
open Go.RowKit

theorem Rds.nil8 (w : World) : Rds w none 0 1 (u8E []) := ⟨rfl, fun h => by omega⟩
/-- What Encode hands back. -/
structure EncR (w : World) (q : Rq) (e : Ending) (w' : World) : Prop where
  yes : chk q = 0 → ∃ (A : Option Addr) (m c : Nat), e = .returned (.tuple #[.slice A m c, .int .i64 0]) ∧ m = (encB q).length ∧ Row w' (From w.heap.size) 5 1 A m c (u8E (encB q)) ∧ Below w.heap.size w w'
  no : chk q ≠ 0 → e = .returned (.tuple #[.slice none 0 0, .int .i64 (chk q)]) ∧ Below w.heap.size w w'
theorem ops_bound {q : Rq} (h : chk q = 0) (hb : RqB q) : q.ops.length ≤ 8 ∧ ∀ o ∈ q.ops, (opB o).length ≤ 1000 ∧ o.uid.length ≤ 80000 ∧ o.card.length ≤ 80000 ∧ I64b o.ck ∧ I64b o.cv := by
  obtain ⟨h1, h2, h3, h4, h5⟩ := chk_0 h
  have s := (stray_iff q).1 h2
  unfold namedB at h3
  simp only [Bool.and_eq_true, Bool.or_eq_true, Bool.not_eq_true', List.all_eq_true] at h3
  unfold formedB at h4
  simp only [Bool.and_eq_true, Bool.or_eq_true, Bool.not_eq_true', List.all_eq_true] at h4
  unfold outB at h5
  simp only [Bool.or_eq_false_iff, Bool.and_eq_false_iff, decide_eq_false_iff_not] at h5
  obtain ⟨⟨⟨⟨r1, _⟩, _⟩, _⟩, _⟩ := h5
  refine ⟨?_, fun o ho => ?_⟩
  · rcases r1 with h | h
    · rw [s.ops h]; simp
    · omega
  · have hu := uid_len (h3.2 o ho)
    have hf := h4.2 o ho
    have hB := hb.ops o ho
    have k1 := numB_le hB.1.2
    have k2 := numB_le hB.2.2
    have k3 := textB_len (s := o.uid) (by omega)
    have hc : o.card.length ≤ 900 := by
      rcases hf.1 with h | h
      · rw [s.del o ho h]; simp
      · exact is_len h
    have k4 := textB_len (s := o.card) (by omega)
    have k5 : (numB 0).length ≤ 9 := numB_le (by decide)
    have k6 : (numB 1).length ≤ 9 := numB_le (by decide)
    refine ⟨?_, by omega, by omega, hB.1, hB.2⟩
    unfold opB condB
    split <;> (simp only [List.length_append]; omega)

/-- What may stand in a request that may be: its parts' sizes. -/
structure EncH (tn col uid card : List UInt8) (ck cv : Int) (ops : List OpV) (tok most ticks : Int) : Prop where
  stn : tn.length ≤ 20000
  scol : col.length ≤ 20000
  suid : uid.length ≤ 20000
  scard : card.length ≤ 20000
  sck : I64b ck
  scv : I64b cv
  stok : -9223372036854775808 ≤ tok ∧ tok ≤ 9223372036854775807
  smost : -9223372036854775808 ≤ most ∧ most ≤ 9223372036854775807
  sticks : -9223372036854775808 ≤ ticks ∧ ticks ≤ 9223372036854775807
  Ltn : (textB tn).length ≤ 20009
  Lcol : (textB col).length ≤ 20009
  Luid : (textB uid).length ≤ 20009
  Lcard : (textB card).length ≤ 20009
  Lcond : (condB ck cv).length ≤ 18
  Ltok : (numB tok).length ≤ 18
  Lmost : (numB most).length ≤ 18
  Lticks : (numB ticks).length ≤ 18
  ops8 : ops.length ≤ 8
  sops : ∀ o ∈ ops, (opB o).length ≤ 1000 ∧ o.uid.length ≤ 80000 ∧ o.card.length ≤ 80000 ∧ I64b o.ck ∧ I64b o.cv
theorem EncH.of {k : Int} {tn col uid card : List UInt8} {ck cv : Int} {ops : List OpV} {tok most ticks : Int} (h0 : chk ⟨k, tn, col, uid, card, ck, cv, ops, tok, most, ticks⟩ = 0) (hB : RqB ⟨k, tn, col, uid, card, ck, cv, ops, tok, most, ticks⟩) : EncH tn col uid card ck cv ops tok most ticks := by
  have rr := raw_of h0 hB
  obtain ⟨hb8, hbo⟩ := ops_bound h0 hB
  have t := fun (s : List UInt8) (h : s.length ≤ 20000) => show (textB s).length ≤ 20009 by have := textB_len h; omega
  have u := fun (v : Int) (h : I64b v) => show (numB v).length ≤ 18 by have := numB_len9 h; omega
  refine ⟨rr.tn.1, rr.col.1, rr.uid.1, rr.card.1, hB.ck, hB.cv, hB.tok, hB.most, hB.ticks, t _ rr.tn.1, t _ rr.col.1, t _ rr.uid.1, t _ rr.card.1, ?_, u _ hB.tok, u _ hB.most, u _ hB.ticks, hb8, hbo⟩
  have h1 := numB_len9 (v := ck) hB.ck
  have h2 := numB_len9 (v := cv) hB.cv
  unfold condB
  rw [List.length_append]
  omega
end Go.Proofs.YtogjokofmfpmgaaGreatDoor
namespace Go.Proofs.YtogjokofmfpmgaaGreatDoor
open Go.RowKit

set_option maxHeartbeats 2000000 in
theorem rptext_calls (w : World) (A : Option Addr) (n c : Nat) (l : List UInt8) (s : ByteArray) (hn : n = l.length) (hr : Rds w A n 1 (u8E l)) (hb : n ≤ 900000) (hs : s.size ≤ 90000) :
    Calls Tryz.prog 47 #[.slice A n c, .string s] w fun e w' => BytR 5 w (l ++ textB s.data.toList) e w' := by
  obtain ⟨i0, hi, hz0, hz1, hz2⟩ := info_parts pkInfo
  have C1 := hd (rpnum_calls w A n c l (s.size : Int) hn hr (by omega) (by omega) (by omega))
  have HNL := hd (show (numB (s.size : Int)).length ≤ 9 from numB_len _ (by omega))
  have HN := hd hn
  have HS := hd (show textB s.data.toList = numB (s.size : Int) ++ s.data.toList by unfold textB; rw [ba_size])
  clear hn hr
  go_enter Tryz.func47, Tryz.ntmps47
  go_wp2_with fail
  refine C1.o.mono ?_
  rintro e w1 ⟨⟨B, m, d, rfl, hm, hr, hb1⟩⟩
  have hmb : m ≤ 900009 := by rw [hm, List.length_append, ← HN.o]; have := HNL.o; omega
  have HM := hd hm
  have HR := hd hr
  have HB1 := hd hb1
  clear hm hr hb1
  go_wp2_with (at_builtin; refine wpList_append_str rfl _ _ 27 9 rfl (From w.heap.size) 5 i0 (.int .u8 0) 1 Tryz.underlying27 Tryz.underlying9 hi hz0 hz1 hz2 rfl B m d (u8E (l ++ numB (s.size : Int))) rfl HR.o s rfl (by unfold maxLen; omega) (by omega) ?_; intro A3 c3 w3 hown3 hchg3)
  go_ret
  refine ⟨⟨A3, m + s.size, c3, rfl, ?_, ?_, HB1.o.trans ((hchg3.below (fun _ h => h) HB1.o.size))⟩⟩
  · rw [HS.o, HM.o, ba_size]
    simp only [List.length_append]
    omega
  · rw [HS.o, ← List.append_assoc, u8E_app (l ++ numB (s.size : Int))]
    exact hown3.mono (fun q hq => hq.elim id (fun hq => Nat.le_trans HB1.o.size hq))

set_option maxHeartbeats 2000000 in
theorem rpcond_calls (w : World) (A : Option Addr) (n c : Nat) (l : List UInt8) (ck cv : Int) (hn : n = l.length) (hr : Rds w A n 1 (u8E l)) (hb : n ≤ 800000) (hck : I64b ck) (hcv : I64b cv) :
    Calls Tryz.prog 48 #[.slice A n c, .agg #[.int .i64 ck, .int .i64 cv]] w fun e w' => BytR 5 w (l ++ condB ck cv) e w' := by
  obtain ⟨X, hX⟩ : ∃ X, X = w.alloc (.cells #[.int .i64 ck, .int .i64 cv] 23) := ⟨_, rfl⟩
  have hbx : Blk X w.heap.size 23 #[.int .i64 ck, .int .i64 cv] := by rw [hX]; exact Blk.new _ _ _
  have hrx : Rds X A n 1 (u8E l) := by rw [hX]; exact hr.alloc _
  have HBX := hd (show Below w.heap.size w X by rw [hX]; exact (Below.refl _ w).alloc (Nat.le_refl _) _)
  have C1 := hd (rpnum_calls X.drew A n c l ck hn (hrx.drewN 1) (by omega) hck.2 hck.1)
  have x0 := hbx.at_ 0 rfl
  have x1 := hbx.at_ 1 rfl
  have hxl := hbx.lt
  have HX := hd hX
  have HN := hd hn
  have HK1 := hd (numB_len9 hck)
  have HCV1 := hd hcv.1
  have HCV2 := hd hcv.2
  clear hX hn hr hrx hck hcv
  have tok1 : True := trivial
  go_enter Tryz.func48, Tryz.ntmps48
  go_wp2_with fail
  rw [← HX.o]
  go_region_held3 (fun w' => w'.cell? ⟨w.heap.size, 0, none⟩ = some (.int .i64 ck) ∧ w'.cell? ⟨w.heap.size, 1, none⟩ = some (.int .i64 cv)) (first | go_keep | (with_reducible exact ⟨k1, k2⟩)) (first
    | (go_at_call 49; have _t := tok1; (with_reducible refine C1.o.mono ?_); rintro e w1 ⟨⟨B, m, d, rfl, hm, hr1, hb1⟩⟩; have k1 := (hb1.cell (p := ⟨w.heap.size, 0, none⟩) hxl).trans x0; have k2 := (hb1.cell (p := ⟨w.heap.size, 1, none⟩) hxl).trans x1; have hml : m ≤ 900000 := (by have h1 := HK1.o; have h2 := HN.o; rw [hm, List.length_append]; omega); have HM := hd hm; have HR1 := hd hr1; have HB1 := hd hb1; clear tok1 hm hr1 hb1 _t)
    | (go_at_call 49; (with_reducible refine (rpnum_calls _ B m d _ cv HM.o HR1.o.rds (by omega) HCV2.o HCV1.o).mono ?_); rintro e w2 ⟨⟨B2, m2, d2, rfl, hm2, hr2, hb2⟩⟩; have j1 := (hb2.cell (p := ⟨w.heap.size, 0, none⟩) (Nat.lt_of_lt_of_le hxl HB1.o.size)).trans k1; have j2 := (hb2.cell (p := ⟨w.heap.size, 1, none⟩) (Nat.lt_of_lt_of_le hxl HB1.o.size)).trans k2; clear k1 k2; have k1 := j1; have k2 := j2; clear j1 j2; have HM2 := hd hm2; have HR2 := hd hr2; have HB2 := hd hb2; clear hm2 hr2 hb2))
  go_wp2
  go_ret
  refine ⟨⟨B2, m2, d2, rfl, ?_, ?_, ?_⟩⟩
  · rw [HM2.o]; simp [condB]
  · have h := HR2.o
    rw [List.append_assoc] at h
    exact h.mono (fun q hq => Nat.le_trans (Nat.le_trans HBX.o.size HB1.o.size) hq)
  · exact HBX.o.trans ((undr (HB1.o.trans (HB2.o.mono HB1.o.size))).mono HBX.o.size)

theorem bit_calls (b : Bool) (w : World) : Calls Tryz.prog 50 #[.bool b] w fun e w' => e = .returned (.int .i64 (if b then 1 else 0)) ∧ w = w' := by
  cases b with
  | true =>
    go_enter Tryz.func50, Tryz.ntmps50
    go_wp2
    go_ret
    exact ⟨rfl, rfl⟩
  | false =>
    go_enter Tryz.func50, Tryz.ntmps50
    go_wp2
    go_ret
    exact ⟨rfl, rfl⟩

end Go.Proofs.YtogjokofmfpmgaaGreatDoor
