/-
  Conditions: May, both sides.
-/
import Derived.Test.YtogjokofmfpmgaaGreatDoorProg
import Derived.Test.YtogjokofmfpmgaaGreatDoorGAA
import Derived.Test.YtogjokofmfpmgaaGreatDoorGAG
import Derived.Test.YtogjokofmfpmgaaGreatDoorGAI
import Derived.Test.YtogjokofmfpmgaaGreatDoorGAJ
import Derived.Test.YtogjokofmfpmgaaGreatDoorGAB
import Derived.Deep.Upon
import Derived.Laws.IdiomStrings
import Derived.Laws.BytesArg
import Derived.Deep.AppendSrc
set_option linter.unusedVariables false
set_option linter.unusedSimpArgs false
namespace Go.Proofs.YtogjokofmfpmgaaGreatDoor
open Go.RowKit Go.Lib

set_option maxHeartbeats 1000000 in
theorem cmay_calls (w : World) (ck cv : Int) : Calls Tryz.prog 89 #[.agg #[.int .i64 ck, .int .i64 cv]] w fun e w' => e = .returned (.bool (mayP ck cv)) ∧ Below w.heap.size w w' := by
  have HV : Hd (∃ b, b = mayP ck cv) := hd ⟨_, rfl⟩
  have hb := hd ((Below.refl w.heap.size w).alloc (Nat.le_refl _) (.cells #[.int .i64 ck, .int .i64 cv] 23))
  by_cases c0 : ck = 0
  · subst c0
    go_enter Tryz.func89, Tryz.ntmps89
    go_wp2
    go_ret
    exact ⟨rfl, hb.o⟩
  · by_cases c1 : ck = 1
    · subst c1
      go_enter Tryz.func89, Tryz.ntmps89
      go_wp2
      go_ret
      exact ⟨rfl, hb.o⟩
    · by_cases c2 : ck = 2
      · subst c2
        go_enter Tryz.func89, Tryz.ntmps89
        go_wp2
        go_ret
        exact ⟨rfl, hb.o⟩
      · by_cases c3 : ck = 3
        · subst c3
          go_enter Tryz.func89, Tryz.ntmps89
          go_wp2
          go_ret
          exact ⟨rfl, hb.o⟩
        · have e0 : (ck == 0) = false := by simpa using c0
          have e1 : (ck == 1) = false := by simpa using c1
          have e2 : (ck == 2) = false := by simpa using c2
          have e3 : (ck == 3) = false := by simpa using c3
          have HF : Hd (mayP ck cv = false) := hd (by simp [mayP, c0, c1, c2, c3])
          clear c0 c1 c2 c3
          go_enter Tryz.func89, Tryz.ntmps89
          go_wp2
          go_ret
          exact ⟨ret_bool HF.o.symm, hb.o⟩

end Go.Proofs.YtogjokofmfpmgaaGreatDoor
namespace Go.Proofs.YtogjokofmfpmgaaGreatDoor
open Go.RowKit

/-- Sizes that a walk bears. -/
structure RqS (q : Rq) : Prop where
  tn : q.tn.length ≤ 1000000
  col : q.col.length ≤ 1000000
  uid : q.uid.length ≤ 1000000
  card : q.card.length ≤ 1000000
  ops : q.ops.length ≤ 1000000
  op : ∀ o ∈ q.ops, o.uid.length ≤ 1000000 ∧ o.card.length ≤ 1000000
def namA (h1 h2 h3 n1 n2 n3 : Bool) : Bool := (!h1 || n1) && (!h2 || n2) && (!h3 || n3)
def namC (ops : List OpV) : Bool := ops.all (fun o => uidB o.uid)
theorem nam_parts (q : Rq) : namedB q = (namA (hT q.k) (hC q.k) (hU q.k) (nameB q.tn) (nameB q.col) (uidB q.uid) && namC q.ops) := by
  unfold namedB namA namC
  simp only [Bool.and_assoc]

set_option maxRecDepth 100000 in
set_option maxHeartbeats 8000000 in
theorem named_calls (q : Rq) (A : Option Addr) (c : Nat) (h : isK q.k = true) (w : World) (hr : Rds w A q.ops.length 5 (opsE q.ops)) (hs : RqS q) :
    Calls Tryz.prog 67 #[reqV q A c, .agg (hasE q.k).toArray] w fun e w' => e = .returned (.bool (namedB q)) ∧ Below w.heap.size w w' := by
  have hsa := shapeA h
  have hb := hs.ops
  have C1 := fun W => name_calls (bs q.tn) (by rw [bs_size]; have := hs.tn; omega) W
  have C2 := fun W => name_calls (bs q.col) (by rw [bs_size]; have := hs.col; omega) W
  have C3 := fun W => uid_calls (bs q.uid) (by rw [bs_size]; have := hs.uid; omega) W
  have C4 := hd (fun o (ho : o ∈ q.ops) W => uid_calls (bs o.uid) (by rw [bs_size]; have := (hs.op o ho).1; omega) W)
  rw [bs_data] at C1 C2 C3
  obtain ⟨sb, hsq⟩ : ∃ sb, namedB q = sb := ⟨_, rfl⟩
  rw [hsq]
  rw [nam_parts q] at hsq
  obtain ⟨k, tn, col, uid, card, ck, cv, ops, tok, most, ticks⟩ := q
  simp only at *
  unfold reqV reqE hasE
  simp only
  generalize hT k = h1 at *
  generalize hC k = h2 at *
  generalize hU k = h3 at *
  generalize hCd k = h4 at *
  generalize hCn k = h5 at *
  generalize hO k = h6 at *
  generalize hTk k = h7 at *
  generalize hM k = h8 at *
  generalize hTi k = h9 at *
  generalize nameB tn = n1 at *
  generalize nameB col = n2 at *
  generalize uidB uid = n3 at *
  obtain ⟨sa, hA⟩ : ∃ sa, namA h1 h2 h3 n1 n2 n3 = sa := ⟨_, rfl⟩
  rw [hA] at hsq
  have HS := hd hsq
  have HA := hd hA
  replace C1 := hd C1
  replace C2 := hd C2
  replace C3 := hd C3
  obtain ⟨n, hn⟩ : ∃ n, ops.length = n := ⟨_, rfl⟩
  have HN := hd hn
  rw [hn] at hr hb ⊢
  have HR := hd hr
  clear hA hsq hn hr hs
  obtain ⟨X, hX⟩ : ∃ X, X = (w.alloc (.cells #[.int .i64 k, .string (bs tn), .string (bs col), .string (bs uid), .string (bs card), .int .i64 ck, .int .i64 cv, .slice A n c, .int .i64 tok, .int .i64 most, .int .i64 ticks] 26)).alloc (.cells #[.bool h1, .bool h2, .bool h3, .bool h4, .bool h5, .bool h6, .bool h7, .bool h8, .bool h9] 78) := ⟨_, rfl⟩
  have q1 : Blk X w.heap.size 26 #[.int .i64 k, .string (bs tn), .string (bs col), .string (bs uid), .string (bs card), .int .i64 ck, .int .i64 cv, .slice A n c, .int .i64 tok, .int .i64 most, .int .i64 ticks] := by rw [hX]; exact (Blk.new _ _ _).alloc _
  have q2 : Blk X (w.heap.size + 1) 78 #[.bool h1, .bool h2, .bool h3, .bool h4, .bool h5, .bool h6, .bool h7, .bool h8, .bool h9] := by rw [hX]; exact Blk.new_ _ _ (by simp) _ _
  have HBX := hd (show Below w.heap.size w X by rw [hX]; exact twoB _ _ _)
  have r1 := q1.at_ 1 rfl
  have r2 := q1.at_ 2 rfl
  have r3 := q1.at_ 3 rfl
  have r7 := q1.at_ 7 rfl
  have t0 := q2.at_ 0 rfl
  have t1 := q2.at_ 1 rfl
  have t2 := q2.at_ 2 rfl
  have HX := hd hX
  clear q1 q2 hX
  go_enter Tryz.func67, Tryz.ntmps67
  go_upto_region 1 with (fail)
  rw [← HX.o]
  go_cut [0, 1, 34] from 7 to 34 (fun _ _ s34 wx => s34 = .bool (!sa) ∧ wx = X)
  case first =>
    clear h
    rcases hsa with ⟨rfl, rfl, rfl, rfl, rfl⟩ | ⟨rfl, rfl, rfl, rfl, rfl⟩ | ⟨rfl, rfl, rfl, rfl, rfl⟩ | ⟨rfl, rfl, rfl, rfl, rfl⟩ | ⟨rfl, rfl, rfl, rfl, rfl⟩ | ⟨rfl, rfl, rfl, rfl, rfl⟩ <;> cases n1 <;> cases n2 <;> cases n3
    all_goals
      obtain rfl := HA.o
      go_wp2_with (first | (go_at_call 86; (with_reducible refine (C1.o _).mono ?_); rintro e w' ⟨rfl, rfl⟩) | (go_at_call 86; (with_reducible refine (C2.o _).mono ?_); rintro e w' ⟨rfl, rfl⟩) | (go_at_call 87; (with_reducible refine (C3.o _).mono ?_); rintro e w' ⟨rfl, rfl⟩))
      go_meet
      exact ⟨rfl, rfl⟩
  case rest =>
  obtain ⟨rfl, hwc⟩ := hcut
  subst hwc
  cases sa with
  | false =>
    go_wp2
    go_ret
    exact ⟨ret_bool (by rw [← HS.o]; rfl), HBX.o⟩
  | true =>
  have HS2 := hd (show namC ops = sb by rw [← HS.o]; rfl)
  clear hsa t0 t1 t2 r1 r2 r3 C1 C2 C3 HA
  go_wp2_with fail
  go_loopw [38, 6] (fun i _ wr => ∃ k : Nat, i = .int .i64 k ∧ k ≤ n ∧ Hd (namC (ops.take k) = true) ∧ Hd (Below w.heap.size w wr) ∧ Hd (Below wc.heap.size wc wr)) (fun i _ _ => n - (intOf i).toNat)
  case atStart => exact ⟨0, rfl, Nat.zero_le _, hd rfl, HBX, hd (Below.refl _ _)⟩
  case round =>
    obtain ⟨k, rfl, hk, HV, HB, HBC⟩ := hrel
    have hki : (0 : Int) ≤ (k : Int) := by omega
    by_cases hlt : k < n
    · have hlti : (k : Int) < (n : Int) := by omega
      have hkl : k < ops.length := by rw [HN.o]; exact hlt
      obtain ⟨g, o, rfl, hg, hc⟩ := HR.o.at_ (by omega)
      obtain ⟨x, hx⟩ : ∃ x, ops[k]'hkl = x := ⟨_, rfl⟩
      have HT : Hd (ops.take (k + 1) = ops.take k ++ [x]) := hd (by rw [List.take_succ_eq_append_getElem hkl, hx])
      have hmem : x ∈ ops := by rw [← hx]; exact List.getElem_mem hkl
      have HMEM := hd hmem
      have hcell : ∀ j u, j < 5 → (opEnc x)[j]? = some u → wr.cell? ⟨g, o + (k * 5 + j), none⟩ = some u := fun j u hj hv => (HB.o.cell (p := ⟨g, o + (k * 5 + j), none⟩) hg).trans (hc _ _ ((opsE_at ops k hkl j hj).trans (by rw [hx]; exact hv)))
      have K4 := C4.o x hmem
      rw [bs_data] at K4
      obtain ⟨xd, xu, xc, xk, xv⟩ := x
      have k0 := hcell 0 _ (by omega) rfl
      have k1 := hcell 1 _ (by omega) rfl
      have k2 := hcell 2 _ (by omega) rfl
      have k3 := hcell 3 _ (by omega) rfl
      have k4 := hcell 4 _ (by omega) rfl
      rw [← Nat.add_assoc] at k0 k1 k2 k3 k4
      rw [Nat.add_zero] at k0
      have HA := hd (HB.o.alloc HB.o.size (.cells #[.bool xd, .string (bs xu), .string (bs xc), .int .i64 xk, .int .i64 xv] 43))
      have HAC := hd (HBC.o.alloc HBC.o.size (.cells #[.bool xd, .string (bs xu), .string (bs xc), .int .i64 xk, .int .i64 xv] 43))
      have HBAD := hd (show uidB xu = false → sb = false from fun h => by
        rw [← HS2.o, namC]
        exact List.all_eq_false.2 ⟨_, HMEM.o, by simp [h]⟩)
      have HGO := hd (show uidB xu = true → namC (ops.take (k + 1)) = true from fun h => by
        have := HV.o
        unfold namC at *
        rw [HT.o, List.all_append, this]
        simpa using h)
      simp only at K4
      generalize uidB xu = ub at *
      replace K4 := hd K4
      clear hcell hc hx hkl hmem
      cases ub with
      | true =>
        have HG := hd (HGO.o rfl)
        go_wp2_with (go_at_call 87; refine (K4.o _).mono ?_; rintro e w' ⟨rfl, rfl⟩)
        go_roundw
        case rel => ((repeat apply Exists.intro); exact ⟨⟨k + 1, by go_num, by omega, HG, HA, HAC⟩, rfl⟩)
        case measure => simp [intOf]; omega
      | false =>
        have HG := hd (HBAD.o rfl)
        go_wp2_with (go_at_call 87; refine (K4.o _).mono ?_; rintro e w' ⟨rfl, rfl⟩)
        go_ret
        exact ⟨ret_bool HG.o.symm, HA.o⟩
    · obtain rfl : k = n := by omega
      have HE : Hd (sb = true) := hd (by
        rw [← HS2.o, ← HV.o, List.take_of_length_le (by rw [HN.o]; exact Nat.le_refl _)])
      go_wp2
      go_ret
      exact ⟨ret_bool HE.o.symm, HB.o⟩

end Go.Proofs.YtogjokofmfpmgaaGreatDoor
namespace Go.Proofs.YtogjokofmfpmgaaGreatDoor
open Go.RowKit

theorem shapeC {k : Int} (h : isK k = true) : (hCd k = true ∧ hCn k = true) ∨ (hCd k = false ∧ hCn k = true) ∨ (hCd k = false ∧ hCn k = false) := by
  rcases kind_or h with rfl | rfl | rfl | rfl | rfl | rfl | rfl | rfl | rfl | rfl | rfl <;> decide
def forA (h4 h5 i4 m5 : Bool) : Bool := (!h4 || i4) && (!h5 || m5)
noncomputable def forO (o : OpV) : Bool := (o.del || isB o.card) && mayP o.ck o.cv
noncomputable def forC (ops : List OpV) : Bool := ops.all forO
theorem for_parts (q : Rq) : formedB q = (forA (hCd q.k) (hCn q.k) (isB q.card) (mayP q.ck q.cv) && forC q.ops) := by
  unfold formedB forA forC forO
  rfl

set_option maxRecDepth 100000 in
set_option maxHeartbeats 8000000 in
theorem formed_calls (q : Rq) (A : Option Addr) (c : Nat) (h : isK q.k = true) (w : World) (ht : Tbs w) (hr : Rds w A q.ops.length 5 (opsE q.ops)) (hs : RqS q) :
    Calls Tryz.prog 68 #[reqV q A c, .agg (hasE q.k).toArray] w fun e w' => e = .returned (.bool (formedB q)) ∧ Below w.heap.size w w' := by
  have hsa := shapeC h
  have hb := hs.ops
  have C1 := fun W (h : Below w.heap.size w W) => cis_calls (bs q.card) (by rw [bs_size]; exact hs.card) W (ht.below h)
  have C2 := fun W => cmay_calls W q.ck q.cv
  have C4 := hd (fun o (ho : o ∈ q.ops) W (h : Below w.heap.size w W) => cis_calls (bs o.card) (by rw [bs_size]; exact (hs.op o ho).2) W (ht.below h))
  rw [bs_data] at C1
  obtain ⟨sb, hsq⟩ : ∃ sb, formedB q = sb := ⟨_, rfl⟩
  rw [hsq]
  rw [for_parts q] at hsq
  obtain ⟨k, tn, col, uid, card, ck, cv, ops, tok, most, ticks⟩ := q
  simp only at *
  unfold reqV reqE hasE
  simp only
  generalize hT k = h1 at *
  generalize hC k = h2 at *
  generalize hU k = h3 at *
  generalize hCd k = h4 at *
  generalize hCn k = h5 at *
  generalize hO k = h6 at *
  generalize hTk k = h7 at *
  generalize hM k = h8 at *
  generalize hTi k = h9 at *
  change ∀ W, Below w.heap.size w W → Calls Tryz.prog 88 #[.string (bs card)] W fun e w' => e = .returned (.bool (isB card)) ∧ Below W.heap.size W w' at C1
  generalize isB card = i4 at *
  generalize mayP ck cv = m5 at *
  obtain ⟨sa, hA⟩ : ∃ sa, forA h4 h5 i4 m5 = sa := ⟨_, rfl⟩
  rw [hA] at hsq
  have HS := hd hsq
  have HA := hd hA
  replace C1 := hd C1
  replace C2 := hd C2
  obtain ⟨n, hn⟩ : ∃ n, ops.length = n := ⟨_, rfl⟩
  have HN := hd hn
  rw [hn] at hr hb ⊢
  have HR := hd hr
  clear hA hsq hn hr hs ht
  obtain ⟨X, hX⟩ : ∃ X, X = (w.alloc (.cells #[.int .i64 k, .string (bs tn), .string (bs col), .string (bs uid), .string (bs card), .int .i64 ck, .int .i64 cv, .slice A n c, .int .i64 tok, .int .i64 most, .int .i64 ticks] 26)).alloc (.cells #[.bool h1, .bool h2, .bool h3, .bool h4, .bool h5, .bool h6, .bool h7, .bool h8, .bool h9] 78) := ⟨_, rfl⟩
  have q1 : Blk X w.heap.size 26 #[.int .i64 k, .string (bs tn), .string (bs col), .string (bs uid), .string (bs card), .int .i64 ck, .int .i64 cv, .slice A n c, .int .i64 tok, .int .i64 most, .int .i64 ticks] := by rw [hX]; exact (Blk.new _ _ _).alloc _
  have q2 : Blk X (w.heap.size + 1) 78 #[.bool h1, .bool h2, .bool h3, .bool h4, .bool h5, .bool h6, .bool h7, .bool h8, .bool h9] := by rw [hX]; exact Blk.new_ _ _ (by simp) _ _
  have HBX := hd (show Below w.heap.size w X by rw [hX]; exact twoB _ _ _)
  have r4 := q1.at_ 4 rfl
  have r5 := q1.at_ 5 rfl
  have r6 := q1.at_ 6 rfl
  have t3 := q2.at_ 3 rfl
  have t4 := q2.at_ 4 rfl
  have Q1 := hd q1
  have Q2 := hd q2
  have hl1 := q1.lt
  have hl2 := q2.lt
  have HX := hd hX
  clear q1 q2 hX
  go_enter Tryz.func68, Tryz.ntmps68
  go_upto_region 1 with (fail)
  rw [← HX.o]
  go_cut [0, 1, 24] from 7 to 24 (fun _ _ s24 wx => s24 = .bool (!sa) ∧ Hd (Below X.heap.size X wx))
  case first =>
    clear h
    rcases hsa with ⟨rfl, rfl⟩ | ⟨rfl, rfl⟩ | ⟨rfl, rfl⟩
    · go_wp2_with fail
      refine (C1.o _ HBX.o).mono ?_
      rintro e w1 ⟨rfl, hb1⟩
      have HB1 := hd hb1
      cases i4 with
      | false =>
        obtain rfl := HA.o
        clear hb1
        go_wp2_with fail
        go_meet
        exact ⟨by cases m5 <;> rfl, HB1⟩
      | true =>
        have r5' := (Q1.o.below hb1 hl1).at_ 5 rfl
        have r6' := (Q1.o.below hb1 hl1).at_ 6 rfl
        have t4' := (Q2.o.below hb1 hl2).at_ 4 rfl
        clear hb1 r5 r6 t4 r4 t3
        go_wp2_with fail
        refine (C2.o _).mono ?_
        rintro e w2 ⟨rfl, hb2⟩
        have HB2 := hd (HB1.o.trans (hb2.mono HB1.o.size))
        clear hb2
        go_wp2_with fail
        go_meet
        exact ⟨by rw [← HA.o]; rfl, HB2⟩
    · go_wp2_with fail
      refine (C2.o _).mono ?_
      rintro e w2 ⟨rfl, hb2⟩
      have HB2 := hd hb2
      clear hb2
      go_wp2_with fail
      go_meet
      exact ⟨by rw [← HA.o]; rfl, HB2⟩
    · go_wp2_with fail
      go_meet
      exact ⟨by rw [← HA.o]; rfl, hd (Below.refl _ _)⟩
  case rest =>
  obtain ⟨rfl, HBW⟩ := hcut
  have r7 := (Q1.o.below HBW.o hl1).at_ 7 rfl
  replace HBX := hd (HBX.o.trans (HBW.o.mono HBX.o.size))
  cases sa with
  | false =>
    go_wp2
    go_ret
    exact ⟨ret_bool (by rw [← HS.o]; rfl), HBX.o⟩
  | true =>
  have HS2 := hd (show forC ops = sb by rw [← HS.o]; rfl)
  have hlc := Nat.lt_of_lt_of_le hl1 HBW.o.size
  clear hsa t3 t4 r4 r5 r6 C1 C2 HA hl1 hl2 HBW
  go_wp2_with fail
  go_loopw [28, 6] (fun i _ wr => ∃ k : Nat, i = .int .i64 k ∧ k ≤ n ∧ Hd (forC (ops.take k) = true) ∧ Hd (Below w.heap.size w wr) ∧ Hd (Below wc.heap.size wc wr)) (fun i _ _ => n - (intOf i).toNat)
  case atStart => exact ⟨0, rfl, Nat.zero_le _, hd rfl, HBX, hd (Below.refl _ _)⟩
  case round =>
    obtain ⟨k, rfl, hk, HV, HB, HBC⟩ := hrel
    have hki : (0 : Int) ≤ (k : Int) := by omega
    by_cases hlt : k < n
    · have hlti : (k : Int) < (n : Int) := by omega
      have hkl : k < ops.length := by rw [HN.o]; exact hlt
      obtain ⟨g, o, rfl, hg, hc⟩ := HR.o.at_ (by omega)
      obtain ⟨x, hx⟩ : ∃ x, ops[k]'hkl = x := ⟨_, rfl⟩
      have HT : Hd (ops.take (k + 1) = ops.take k ++ [x]) := hd (by rw [List.take_succ_eq_append_getElem hkl, hx])
      have hmem : x ∈ ops := by rw [← hx]; exact List.getElem_mem hkl
      have HMEM := hd hmem
      have hcell : ∀ j u, j < 5 → (opEnc x)[j]? = some u → wr.cell? ⟨g, o + (k * 5 + j), none⟩ = some u := fun j u hj hv => (HB.o.cell (p := ⟨g, o + (k * 5 + j), none⟩) hg).trans (hc _ _ ((opsE_at ops k hkl j hj).trans (by rw [hx]; exact hv)))
      obtain ⟨xd, xu, xc, xk, xv⟩ := x
      have k0 := hcell 0 _ (by omega) rfl
      have k1 := hcell 1 _ (by omega) rfl
      have k2 := hcell 2 _ (by omega) rfl
      have k3 := hcell 3 _ (by omega) rfl
      have k4 := hcell 4 _ (by omega) rfl
      rw [← Nat.add_assoc] at k0 k1 k2 k3 k4
      rw [Nat.add_zero] at k0
      have HA := hd (HB.o.alloc HB.o.size (.cells #[.bool xd, .string (bs xu), .string (bs xc), .int .i64 xk, .int .i64 xv] 43))
      have HAC := hd (HBC.o.alloc HBC.o.size (.cells #[.bool xd, .string (bs xu), .string (bs xc), .int .i64 xk, .int .i64 xv] 43))
      have HBK := hd (Blk.new wr 43 #[.bool xd, .string (bs xu), .string (bs xc), .int .i64 xk, .int .i64 xv])
      have K4 := C4.o _ hmem _ HA.o
      rw [bs_data] at K4
      have HBAD := hd (show forO ⟨xd, xu, xc, xk, xv⟩ = false → sb = false from fun h => by
        rw [← HS2.o, forC]
        exact List.all_eq_false.2 ⟨_, HMEM.o, by simp [h]⟩)
      have HGO := hd (show forO ⟨xd, xu, xc, xk, xv⟩ = true → forC (ops.take (k + 1)) = true from fun h => by
        have := HV.o
        unfold forC at *
        rw [HT.o, List.all_append, this]
        simpa using h)
      unfold forO at HBAD HGO
      simp only at HBAD HGO
      change Calls Tryz.prog 88 #[.string (bs xc)] (wr.alloc (.cells #[.bool xd, .string (bs xu), .string (bs xc), .int .i64 xk, .int .i64 xv] 43)) fun e w' => e = .returned (.bool (isB xc)) ∧ Below (wr.alloc (.cells #[.bool xd, .string (bs xu), .string (bs xc), .int .i64 xk, .int .i64 xv] 43)).heap.size (wr.alloc (.cells #[.bool xd, .string (bs xu), .string (bs xc), .int .i64 xk, .int .i64 xv] 43)) w' at K4
      generalize isB xc = ib at *
      have K5 := fun W => cmay_calls W xk xv
      generalize mayP xk xv = mb at *
      replace K4 := hd K4
      replace K5 := hd K5
      clear hcell hc hx hkl hmem
      cases xd with
      | true =>
        cases mb with
        | true =>
          have HG := hd (HGO.o rfl)
          go_wp2_with fail
          refine (K5.o _).mono ?_
          rintro e w2 ⟨rfl, hb2⟩
          have HB2 := hd (HA.o.trans (hb2.mono HA.o.size))
          have HB3 := hd (HAC.o.trans (hb2.mono HAC.o.size))
          clear hb2
          go_wp2
          go_roundw
          case rel => ((repeat apply Exists.intro); exact ⟨⟨k + 1, by go_num, by omega, HG, HB2, HB3⟩, rfl⟩)
          case measure => simp [intOf]; omega
        | false =>
          have HG := hd (HBAD.o rfl)
          go_wp2_with fail
          refine (K5.o _).mono ?_
          rintro e w2 ⟨rfl, hb2⟩
          have HB2 := hd (HA.o.trans (hb2.mono HA.o.size))
          clear hb2
          go_wp2
          go_ret
          exact ⟨ret_bool HG.o.symm, HB2.o⟩
      | false =>
        cases ib with
        | false =>
          have HG := hd (HBAD.o rfl)
          go_wp2_with fail
          refine K4.o.mono ?_
          rintro e w2 ⟨rfl, hb2⟩
          have HB2 := hd (HA.o.trans (hb2.mono HA.o.size))
          clear hb2
          go_wp2
          go_ret
          exact ⟨ret_bool HG.o.symm, HB2.o⟩
        | true =>
          go_wp2_with fail
          refine K4.o.mono ?_
          rintro e w2 ⟨rfl, hb2⟩
          have HB2 := hd (HA.o.trans (hb2.mono HA.o.size))
          have HB3 := hd (HAC.o.trans (hb2.mono HAC.o.size))
          have hx := HBK.o.below hb2 (by simp)
          have m3 := hx.at_ 3 rfl
          have m4 := hx.at_ 4 rfl
          clear hb2 hx
          go_wp2_with fail
          refine (K5.o _).mono ?_
          rintro e w3 ⟨rfl, hb3⟩
          have HB4 := hd (HB2.o.trans (hb3.mono HB2.o.size))
          have HB5 := hd (HB3.o.trans (hb3.mono HB3.o.size))
          clear hb3
          cases mb with
          | true =>
            have HG := hd (HGO.o rfl)
            go_wp2
            go_roundw
            case rel => ((repeat apply Exists.intro); exact ⟨⟨k + 1, by go_num, by omega, HG, HB4, HB5⟩, rfl⟩)
            case measure => simp [intOf]; omega
          | false =>
            have HG := hd (HBAD.o rfl)
            go_wp2
            go_ret
            exact ⟨ret_bool HG.o.symm, HB4.o⟩
    · obtain rfl : k = n := by omega
      have HE : Hd (sb = true) := hd (by
        rw [← HS2.o, ← HV.o, List.take_of_length_le (by rw [HN.o]; exact Nat.le_refl _)])
      go_wp2
      go_ret
      exact ⟨ret_bool HE.o.symm, HB.o⟩

end Go.Proofs.YtogjokofmfpmgaaGreatDoor
namespace Go.Proofs.YtogjokofmfpmgaaGreatDoor
open Go.RowKit

theorem chk_12 {q : Rq} (h : isK q.k = false) : chk q = 12 := by unfold chk; rw [if_pos h]
theorem chk_s {q : Rq} (h : isK q.k = true) (h2 : strayB q = true) : chk q = 1 := by unfold chk; rw [if_neg (by rw [h]; decide), if_pos h2]
theorem chk_n {q : Rq} (h : isK q.k = true) (h2 : strayB q = false) (h3 : namedB q = false) : chk q = 3 := by unfold chk; rw [if_neg (by rw [h]; decide), if_neg (by rw [h2]; decide), if_pos h3]
theorem chk_f {q : Rq} (h : isK q.k = true) (h2 : strayB q = false) (h3 : namedB q = true) (h4 : formedB q = false) : chk q = 1 := by unfold chk; rw [if_neg (by rw [h]; decide), if_neg (by rw [h2]; decide), if_neg (by rw [h3]; decide), if_pos h4]
theorem chk_o {q : Rq} (h : isK q.k = true) (h2 : strayB q = false) (h3 : namedB q = true) (h4 : formedB q = true) : chk q = if outB q = true then 12 else 0 := by unfold chk; rw [if_neg (by rw [h]; decide), if_neg (by rw [h2]; decide), if_neg (by rw [h3]; decide), if_neg (by rw [h4]; decide)]

set_option maxRecDepth 100000 in
set_option maxHeartbeats 8000000 in
theorem check_calls (q : Rq) (A : Option Addr) (c : Nat) (w : World) (ht : Tbs w) (hr : Rds w A q.ops.length 5 (opsE q.ops)) (hs : RqS q) :
    Calls Tryz.prog 19 #[reqV q A c] w fun e w' => e = .returned (.int .i64 (chk q)) ∧ Below w.heap.size w w' := by
  cases hk : isK q.k with
  | false =>
    have C0 := fun W => isk_calls q.k W
    rw [hk] at C0
    have HV := hd (chk_12 hk)
    replace C0 := hd C0
    unfold reqV reqE
    generalize hX : chk q = X at *
    obtain ⟨k, tn, col, uid, card, ck, cv, ops, tok, most, ticks⟩ := q
    simp only at *
    obtain rfl := HV.o
    generalize ops.length = n at *
    clear hr hs hk ht hX
    go_enter Tryz.func19, Tryz.ntmps19
    go_wp2_with (go_at_call 51; refine (C0.o _).mono ?_; rintro e w' ⟨rfl, rfl⟩)
    go_ret
    exact ⟨rfl, (Below.refl _ w).alloc (Nat.le_refl _) _⟩
  | true =>
    have C0 := fun W => isk_calls q.k W
    rw [hk] at C0
    have C1 := hd (fun W => fields_calls q.k hk W)
    have C2 := hd (fun W (h : Below w.heap.size w W) => stray_calls q A c hk W (hr.below h) hs.ops)
    have C3 := hd (fun W (h : Below w.heap.size w W) => named_calls q A c hk W (hr.below h) hs)
    have C4 := hd (fun W (h : Below w.heap.size w W) => formed_calls q A c hk W (ht.below h) (hr.below h) hs)
    have HV1 := hd (fun h => chk_s hk h)
    have HV2 := hd (fun h h2 => chk_n hk h h2)
    have HV3 := hd (fun h h2 h3 => chk_f hk h h2 h3)
    have HV4 := hd (fun h h2 h3 => chk_o hk h h2 h3)
    have hsb := shapeB hk
    have hob : outB q = ((hO q.k && (decide (q.ops.length < 1) || decide (8 < q.ops.length))) || decide (q.tok < 0) || (hM q.k && (decide (q.most < 1) || decide (1000 < q.most))) || decide (q.ticks < 0) || decide (1048576 < q.ticks)) := rfl
    replace C0 := hd C0
    unfold reqV reqE hasE at *
    generalize chk q = X at *
    generalize strayB q = x1 at *
    generalize namedB q = x2 at *
    generalize formedB q = x3 at *
    generalize outB q = x4 at *
    obtain ⟨k, tn, col, uid, card, ck, cv, ops, tok, most, ticks⟩ := q
    simp only at *
    generalize hT k = h1 at *
    generalize hC k = h2 at *
    generalize hU k = h3 at *
    generalize hCd k = h4 at *
    generalize hCn k = h5 at *
    generalize hO k = h6 at *
    generalize hTk k = h7 at *
    generalize hM k = h8 at *
    generalize hTi k = h9 at *
    have hnm := hs.ops
    simp only at hnm
    generalize ops.length = n at *
    have HOB := hd hob
    clear hr hs hk ht hob
    obtain ⟨Y, hY⟩ : ∃ Y, Y = w.alloc (.cells #[.int .i64 k, .string (bs tn), .string (bs col), .string (bs uid), .string (bs card), .int .i64 ck, .int .i64 cv, .slice A n c, .int .i64 tok, .int .i64 most, .int .i64 ticks] 26) := ⟨_, rfl⟩
    have hbk : Blk Y w.heap.size 26 #[.int .i64 k, .string (bs tn), .string (bs col), .string (bs uid), .string (bs card), .int .i64 ck, .int .i64 cv, .slice A n c, .int .i64 tok, .int .i64 most, .int .i64 ticks] := by rw [hY]; exact Blk.new _ _ _
    have HBY := hd (show Below w.heap.size w Y by rw [hY]; exact (Below.refl _ w).alloc (Nat.le_refl _) _)
    have q0 := hbk.at_ 0 rfl
    have hl0 := hbk.lt
    have HK := hd hbk
    have HYY := hd hY
    clear hbk hY
    go_enter Tryz.func19, Tryz.ntmps19
    go_upto_region 1 with (fail)
    rw [← HYY.o]
    go_wp2_with (go_at_call 51; refine (C0.o _).mono ?_; rintro e w' ⟨rfl, rfl⟩)
    refine (C1.o _).mono ?_
    rintro e w1 ⟨rfl, hb1⟩
    have hk1 := HK.o.below hb1 HK.o.lt
    have HB1 := hd (HBY.o.trans (hb1.mono HBY.o.size))
    obtain ⟨Z, hZ⟩ : ∃ Z, Z = w1.alloc (.cells #[.bool h1, .bool h2, .bool h3, .bool h4, .bool h5, .bool h6, .bool h7, .bool h8, .bool h9] 78) := ⟨_, rfl⟩
    have hkz : Blk Z w.heap.size 26 #[.int .i64 k, .string (bs tn), .string (bs col), .string (bs uid), .string (bs card), .int .i64 ck, .int .i64 cv, .slice A n c, .int .i64 tok, .int .i64 most, .int .i64 ticks] := by rw [hZ]; exact hk1.alloc _
    have hhz : Blk Z w1.heap.size 78 #[.bool h1, .bool h2, .bool h3, .bool h4, .bool h5, .bool h6, .bool h7, .bool h8, .bool h9] := by rw [hZ]; exact Blk.new _ _ _
    have HBZ := hd (show Below w.heap.size w Z by rw [hZ]; exact HB1.o.alloc HB1.o.size _)
    have HZZ := hd hZ
    have HKZ := hd hkz
    have HHZ := hd hhz
    have a0 := hkz.at_ 0 rfl
    have a1 := hkz.at_ 1 rfl
    have a2 := hkz.at_ 2 rfl
    have a3 := hkz.at_ 3 rfl
    have a4 := hkz.at_ 4 rfl
    have a5 := hkz.at_ 5 rfl
    have a6 := hkz.at_ 6 rfl
    have a7 := hkz.at_ 7 rfl
    have a8 := hkz.at_ 8 rfl
    have a9 := hkz.at_ 9 rfl
    have a10 := hkz.at_ 10 rfl
    have e0 := hhz.at_ 0 rfl
    have e1 := hhz.at_ 1 rfl
    have e2 := hhz.at_ 2 rfl
    have e3 := hhz.at_ 3 rfl
    have e4 := hhz.at_ 4 rfl
    have e5 := hhz.at_ 5 rfl
    have e6 := hhz.at_ 6 rfl
    have e7 := hhz.at_ 7 rfl
    have e8 := hhz.at_ 8 rfl
    have la := hkz.lt
    have le := hhz.lt
    clear hb1 hk1 hZ hkz hhz q0 hl0 C0 C1 HK HYY
    go_upto_region 4 with (fail)
    rw [← HZZ.o]
    go_wp2_with fail
    refine (C2.o _ HBZ.o).mono ?_
    rintro e w2 ⟨rfl, hb2⟩
    have HB2 := hd (HBZ.o.trans (hb2.mono HBZ.o.size))
    have hk2 := HKZ.o.below hb2 la
    have hh2 := HHZ.o.below hb2 le
    clear a0 a1 a2 a3 a4 a5 a6 a7 a8 a9 a10 e0 e1 e2 e3 e4 e5 e6 e7 e8 la le hb2 HBZ
    cases x1 with
    | true =>
      have HV := hd (HV1.o (by first | rfl | trivial))
      go_wp2
      go_ret
      exact ⟨ret_int HV.o.symm, HB2.o⟩
    | false =>
      have HK2 := hd hk2
      have HH2 := hd hh2
      have a0 := hk2.at_ 0 rfl
      have a1 := hk2.at_ 1 rfl
      have a2 := hk2.at_ 2 rfl
      have a3 := hk2.at_ 3 rfl
      have a4 := hk2.at_ 4 rfl
      have a5 := hk2.at_ 5 rfl
      have a6 := hk2.at_ 6 rfl
      have a7 := hk2.at_ 7 rfl
      have a8 := hk2.at_ 8 rfl
      have a9 := hk2.at_ 9 rfl
      have a10 := hk2.at_ 10 rfl
      have e0 := hh2.at_ 0 rfl
      have e1 := hh2.at_ 1 rfl
      have e2 := hh2.at_ 2 rfl
      have e3 := hh2.at_ 3 rfl
      have e4 := hh2.at_ 4 rfl
      have e5 := hh2.at_ 5 rfl
      have e6 := hh2.at_ 6 rfl
      have e7 := hh2.at_ 7 rfl
      have e8 := hh2.at_ 8 rfl
      have la := hk2.lt
      have le := hh2.lt
      clear hk2 hh2
      go_wp2_with fail
      refine (C3.o _ HB2.o).mono ?_
      rintro e w3 ⟨rfl, hb3⟩
      have HB3 := hd (HB2.o.trans (hb3.mono HB2.o.size))
      have hk3 := HK2.o.below hb3 la
      have hh3 := HH2.o.below hb3 le
      clear a0 a1 a2 a3 a4 a5 a6 a7 a8 a9 a10 e0 e1 e2 e3 e4 e5 e6 e7 e8 la le hb3
      cases x2 with
      | false =>
        have HV := hd (HV2.o (by first | rfl | trivial) (by first | rfl | trivial))
        go_wp2
        go_ret
        exact ⟨ret_int HV.o.symm, HB3.o⟩
      | true =>
        have HK3 := hd hk3
        have HH3 := hd hh3
        have a0 := hk3.at_ 0 rfl
        have a1 := hk3.at_ 1 rfl
        have a2 := hk3.at_ 2 rfl
        have a3 := hk3.at_ 3 rfl
        have a4 := hk3.at_ 4 rfl
        have a5 := hk3.at_ 5 rfl
        have a6 := hk3.at_ 6 rfl
        have a7 := hk3.at_ 7 rfl
        have a8 := hk3.at_ 8 rfl
        have a9 := hk3.at_ 9 rfl
        have a10 := hk3.at_ 10 rfl
        have e0 := hh3.at_ 0 rfl
        have e1 := hh3.at_ 1 rfl
        have e2 := hh3.at_ 2 rfl
        have e3 := hh3.at_ 3 rfl
        have e4 := hh3.at_ 4 rfl
        have e5 := hh3.at_ 5 rfl
        have e6 := hh3.at_ 6 rfl
        have e7 := hh3.at_ 7 rfl
        have e8 := hh3.at_ 8 rfl
        have la := hk3.lt
        have le := hh3.lt
        clear hk3 hh3
        go_wp2_with fail
        refine (C4.o _ HB3.o).mono ?_
        rintro e w4 ⟨rfl, hb4⟩
        have HB4 := hd (HB3.o.trans (hb4.mono HB3.o.size))
        have hk4 := HK3.o.below hb4 la
        have hh4 := HH3.o.below hb4 le
        clear a0 a1 a2 a3 a4 a5 a6 a7 a8 a9 a10 e0 e1 e2 e3 e4 e5 e6 e7 e8 la le hb4
        cases x3 with
        | false =>
          have HV := hd (HV3.o (by first | rfl | trivial) (by first | rfl | trivial) (by first | rfl | trivial))
          go_wp2
          go_ret
          exact ⟨ret_int HV.o.symm, HB4.o⟩
        | true =>
          have HV := hd (HV4.o (by first | rfl | trivial) (by first | rfl | trivial) (by first | rfl | trivial))
          have a7 := hk4.at_ 7 rfl
          have a8 := hk4.at_ 8 rfl
          have a9 := hk4.at_ 9 rfl
          have a10 := hk4.at_ 10 rfl
          have e5 := hh4.at_ 5 rfl
          have e7 := hh4.at_ 7 rfl
          have la := hk4.lt
          have le := hh4.lt
          clear hk4 hh4 C2 C3 C4 HV1 HV2 HV3 HV4
          have HNO := hd (show x4 = true → X = 12 from fun h => by rw [HV.o, if_pos h])
          have HYES := hd (show x4 = false → X = 0 from fun h => by rw [HV.o, if_neg (by rw [h]; decide)])
          rcases hsb with ⟨rfl, rfl, rfl, rfl⟩ | ⟨rfl, rfl, rfl, rfl⟩ | ⟨rfl, rfl, rfl, rfl⟩ | ⟨rfl, rfl, rfl, rfl⟩
          all_goals
            go_wp2
            all_goals first
              | (exfalso; omega)
              | (go_ret; exact ⟨ret_int (HNO.o (by rw [HOB.o]; simp; omega)).symm, HB4.o⟩)
              | (go_ret; exact ⟨ret_int (HYES.o (by rw [HOB.o]; simp; omega)).symm, HB4.o⟩)

end Go.Proofs.YtogjokofmfpmgaaGreatDoor
namespace Go.Proofs.YtogjokofmfpmgaaGreatDoor
open Go.RowKit

/-- append of at least one element onto what is read: no room, so a new row. -/
theorem run_append_new {P : Program} (w : World) (t ty e : TypeId) (i : TypeInfo) (z : Value) (size bytes : Nat) (ht : P.underlying t = some (.slice e)) (hi : P.info? e = some i) (hz : i.zero = some z)
    (hsize : i.size = size) (hby : i.bytes = bytes) (hzs : z.cells.size = size) (A : Option Addr) (n cap : Nat) (xs : List Value) (hxl : xs.length = n * size) (hA : A = none → n = 0 ∧ cap = 0)
    (holds : ∀ b, A = some b → ∀ j u, xs[j]? = some u → w.cell? (b.add j) = some u)
    (a : Addr) (m c : Nat) (news : List Value) (hl : news.length = m * size) (hnews : ∀ j u, news[j]? = some u → w.cell? (a.add j) = some u)
    (h0 : 0 < m) (hg : cap < n + m) (h63 : n + m ≤ maxLen) (hbytes : (n + m) * bytes ≤ 140737488355328) :
    ∃ A' c' w', (Builtin.append_ #[t, t] ty #[.slice A n cap, .slice (some a) m c]).run P w = .ok (.slice A' (n + m) c') w' ∧ Row w' (From w.heap.size) e size A' (n + m) c' (xs ++ news) ∧ Below w.heap.size w w' := by
  subst hsize
  subst hby
  have hsmall : n + m ≤ 9223372036854775807 := by simp only [maxLen] at h63; omega
  have hlen : (xs ++ news).length = (n + m) * i.size := by rw [List.length_append, hxl, hl, Nat.add_mul]
  have grown : ∀ (old : Nat),
      Row (w.drew.alloc (.cells (xs.toArray ++ news.toArray ++ Builtin.zeroCells z.cells (grownCap w (n + m) old e - (n + m))) e)) (From w.heap.size) e i.size (some ⟨w.heap.size, 0, none⟩) (n + m) (grownCap w (n + m) old e) (xs ++ news) ∧
      Below w.heap.size w (w.drew.alloc (.cells (xs.toArray ++ news.toArray ++ Builtin.zeroCells z.cells (grownCap w (n + m) old e - (n + m))) e)) := by
    intro old
    have hge := grownCap_ge w (n + m) old e
    have hcm : grownCap w (n + m) old e ≤ maxLen := grownCap_le_maxLen w (n + m) old e h63
    refine ⟨Row.of_block (Blk.new w.drew e _) (Nat.le_refl _) hge hcm ?_ ?_ hlen, (Chg.below ((Chg.refl Non w).drew.alloc _) (fun _ h => h.elim) (Nat.le_refl _))⟩
    · simp only [Array.size_append, List.size_toArray, size_zeroCells, hzs, hxl, hl, ← Nat.add_mul]
      congr 1
      omega
    · simp only [Array.toList_append, List.append_assoc]
      rw [← List.append_assoc, ← hlen]
      exact List.take_left
  cases A with
  | none =>
    obtain ⟨rfl, rfl⟩ := hA rfl
    obtain rfl : xs = [] := List.eq_nil_of_length_eq_zero (by simpa using hxl)
    have hrun := run_append_nil (P := P) (w := w) t ty e i z ht hi hz a m c news hl hnews h0 (by omega) (by have hb := hbytes; simp only [Nat.zero_add] at hb; omega)
    have hgr := grown 0
    simp only [Nat.zero_add, List.nil_append, Array.empty_append] at hgr ⊢
    exact ⟨_, _, _, hrun, hgr.1, hgr.2⟩
  | some ad =>
    have hrun := run_append_grow (P := P) (w := w) t ty e i z ht hi hz ad n cap xs hxl (holds _ rfl) a m c news hl hnews (by omega) (by omega) (growslice_fits (by omega) hbytes)
    have hgr := grown cap
    exact ⟨_, _, _, hrun, hgr.1, hgr.2⟩

theorem step_append_new {P : Program} {ops : Array Oper} {o : Oper} {a : Act} {w : World} {K : Act → World → Prop} {Q : Exit → Act → World → Prop} {E : Prop}
    (hg : o.guard = none) (s x : Operand) (t : TypeId) (hop : o.op = Op.call { callee := Callee.builtin Builtin.append, args := #[s, x], argTypes := #[t, t] })
    (e : TypeId) (i : TypeInfo) (z : Value) (size bytes : Nat) (ht : P.underlying t = some (.slice e)) (hi : P.info? e = some i) (hz : i.zero = some z)
    (hsize : i.size = size) (hby : i.bytes = bytes) (hzs : z.cells.size = size) (A : Option Addr) (n cap : Nat) (xs : List Value) (hs : a.eval s = .slice A n cap) (hxl : xs.length = n * size) (hA : A = none → n = 0 ∧ cap = 0)
    (ad : Addr) (m c : Nat) (news : List Value) (hx : a.eval x = .slice (some ad) m c) (hl : news.length = m * size)
    (h0 : 0 < m) (hg2 : cap < n + m) (h63 : n + m ≤ maxLen) (hbytes : (n + m) * bytes ≤ 140737488355328)
    (holds : ∀ b, A = some b → ∀ j u, xs[j]? = some u → w.cell? (b.add j) = some u) (hnews : ∀ j u, news[j]? = some u → w.cell? (ad.add j) = some u)
    (h : ∀ A' c' w', Row w' (From w.heap.size) e size A' (n + m) c' (xs ++ news) → Below w.heap.size w w' → K (a.put o.dst (.slice A' (n + m) c')) w') :
    if Region.wanted o (yielded ops a.tmps) = true then Oper.wp P o a w K Q else E := by
  have hw : Region.wanted o (yielded ops a.tmps) = true := by simp [Region.wanted, hg]
  rw [if_pos hw]
  obtain ⟨A', c', w', hrun, h2, h3⟩ := run_append_new (P := P) w t o.type e i z size bytes ht hi hz hsize hby hzs A n cap xs hxl hA holds ad m c news hl hnews h0 hg2 h63 hbytes
  unfold Oper.wp execOp
  simp only [hop, resolve, invoke, builtin, Sem.run_bind, Sem.run_pure, Result.andThen_ok, List.map_toArray, List.map_cons, List.map_nil, hs, hx, hrun]
  exact h A' c' w' h2 h3
/-- A row, or a slice with no room at all. -/
def RowO (w : World) (S : Nat → Prop) (e : TypeId) (size : Nat) (A : Option Addr) (n c : Nat) (xs : List Value) : Prop := Row w S e size A n c xs ∨ (n = 0 ∧ c = 0 ∧ xs = [])
theorem RowO.alloc {w : World} {S : Nat → Prop} {e : TypeId} {size n c : Nat} {A : Option Addr} {xs : List Value} (h : RowO w S e size A n c xs) (o : Obj) : RowO (w.alloc o) S e size A n c xs := h.imp (fun h => h.alloc o) id
theorem RowO.drew {w : World} {S : Nat → Prop} {e : TypeId} {size n c : Nat} {A : Option Addr} {xs : List Value} (h : RowO w S e size A n c xs) : RowO w.drew S e size A n c xs := h.imp (fun h => h.drew) id
theorem RowO.drewN {w : World} {S : Nat → Prop} {e : TypeId} {size n c : Nat} {A : Option Addr} {xs : List Value} (h : RowO w S e size A n c xs) (k : Nat) : RowO (w.drewN k) S e size A n c xs := h.imp (fun h => h.drewN k) id
end Go.Proofs.YtogjokofmfpmgaaGreatDoor
namespace Go.Proofs.YtogjokofmfpmgaaGreatDoor
open Go.RowKit

theorem run_append_none0 {P : Program} (w : World) (t ty e : TypeId) (i : TypeInfo) (ht : P.underlying t = some (.slice e)) (hi : P.info? e = some i) (A : Option Addr) (n cap : Nat) (hle : n ≤ cap) (B : Option Addr) (c : Nat) :
    (Builtin.append_ #[t, t] ty #[.slice A n cap, .slice B 0 c]).run P w = .ok (.slice A n cap) w := by
  have hs : Src P i.size t (.slice B 0 c) 0 [] w := by
    cases B with
    | none => exact Src.ofNil w ht c
    | some b => exact Src.ofSlice w ht b 0 c [] (by simp) (by simp) (by simp)
  exact run_append_nothing (P := P) w t t ty e i ht hi A n cap hle (.slice B 0 c) hs
theorem news_nil {size : Nat} {news : List Value} {w : World} {B : Option Addr} (h : Rds w B 0 size news) : news = [] := List.eq_nil_of_length_eq_zero (by have := h.len; simpa using this)
/-- Onto an owned row. -/
theorem run_append_rowG {P : Program} (w : World) (S : Nat → Prop) (t ty e : TypeId) (i : TypeInfo) (z : Value) (size bytes : Nat) (ht : P.underlying t = some (.slice e)) (hi : P.info? e = some i) (hz : i.zero = some z)
    (hsize : i.size = size) (hby : i.bytes = bytes) (hzs : z.cells.size = size) (A : Option Addr) (n cap : Nat) (xs : List Value) (hr : Row w S e size A n cap xs)
    (B : Option Addr) (m c : Nat) (news : List Value) (hsrc : Rds w B m size news) (h1 : ∀ u ∈ news, u.oneCell' = true)
    (h63 : n + m ≤ maxLen) (hbytes : (n + m) * bytes ≤ 140737488355328) :
    ∃ A' c' w', (Builtin.append_ #[t, t] ty #[.slice A n cap, .slice B m c]).run P w = .ok (.slice A' (n + m) c') w' ∧ Row w' (Plus S w.heap.size) e size A' (n + m) c' (xs ++ news) ∧ Chg S w w' := by
  by_cases h0 : 0 < m
  · obtain ⟨g, o, rfl, hg, hc⟩ := hsrc.at_ h0
    exact run_append_row w S t ty e i z size bytes ht hi hz hsize hby hzs A n cap xs hr ⟨g, o, none⟩ m c news hsrc.len (fun j u hu => by rw [Addr.add_lit]; exact hc j u hu) h1 h0 h63 hbytes
  · obtain rfl : m = 0 := by omega
    obtain rfl := news_nil hsrc
    exact ⟨A, cap, w, run_append_none0 w t ty e i ht hi A n cap hr.cap.1 B c, by simpa using hr.mono (fun q hq => .inl hq), Chg.refl _ _⟩
theorem wpList_append_rowG {P : Program} {w : World} {Q : Exit → Act → World → Prop} {a : Act} {ops : Array Oper} {rest : List Oper} {o : Oper} (hgd : o.guard = none) (s x : Operand) (t : TypeId)
    (ho : o.op = .call { callee := .builtin .append, args := #[s, x], argTypes := #[t, t] })
    (S : Nat → Prop) (e : TypeId) (i : TypeInfo) (z : Value) (size bytes : Nat) (ht : P.underlying t = some (.slice e)) (hi : P.info? e = some i) (hz : i.zero = some z)
    (hsize : i.size = size) (hby : i.bytes = bytes) (hzs : z.cells.size = size) (A : Option Addr) (n cap : Nat) (xs : List Value) (hs : a.eval s = .slice A n cap) (hr : Row w S e size A n cap xs)
    (B : Option Addr) (m c : Nat) (news : List Value) (hx : a.eval x = .slice B m c) (hsrc : Rds w B m size news) (h1 : ∀ u ∈ news, u.oneCell' = true)
    (h63 : n + m ≤ maxLen) (hbytes : (n + m) * bytes ≤ 140737488355328)
    (h : ∀ A' c' w', Row w' (Plus S w.heap.size) e size A' (n + m) c' (xs ++ news) → Chg S w w' → wpList P ops Q rest (a.put o.dst (.slice A' (n + m) c')) w') : wpList P ops Q (o :: rest) a w :=
  wpList_plain hgd fun K hK => by
    obtain ⟨A', c', w', hrun, h2, h3⟩ := run_append_rowG (P := P) w S t o.type e i z size bytes ht hi hz hsize hby hzs A n cap xs hr B m c news hsrc h1 h63 hbytes
    unfold Oper.wp execOp
    simp only [ho, resolve, invoke, builtin, Sem.run_bind, Sem.run_pure, Result.andThen_ok, List.map_toArray, List.map_cons, List.map_nil, hs, hx, hrun]
    exact hK _ _ (h A' c' w' h2 h3)
end Go.Proofs.YtogjokofmfpmgaaGreatDoor
namespace Go.Proofs.YtogjokofmfpmgaaGreatDoor
open Go.RowKit

def u8E (l : List UInt8) : List Value := l.map fun b => Value.int .u8 b.toNat
theorem u8E_len (l : List UInt8) : (u8E l).length = l.length := by simp [u8E]
theorem u8E_app (a b : List UInt8) : u8E (a ++ b) = u8E a ++ u8E b := by simp [u8E]
theorem u8E_one (l : List UInt8) : ∀ u ∈ u8E l, u.oneCell' = true := by
  intro u hu
  obtain ⟨c, _, rfl⟩ := List.mem_map.1 hu
  rfl
theorem u8E_at (l : List UInt8) (i : Nat) (h : i < l.length) : (u8E l)[i]? = some (.int .u8 l[i].toNat) := by simp [u8E, h]
theorem conv_back {P : Program} (w : World) (src dst e : TypeId) (hs : P.underlying src = some (.slice e)) (he : P.underlying e = some (.int .u8)) (hd : P.underlying dst = some .string) (A : Option Addr) (n c : Nat) (l : List UInt8) (hn : n = l.length) (hr : Rds w A n 1 (u8E l)) :
    (convert src dst (.slice A n c)).run P w = .ok (.string (bs l)) w := by
  by_cases h0 : 0 < n
  · obtain ⟨g, o, rfl, _, hc⟩ := hr.at_ h0
    subst hn
    exact run_convert_bytes_back w src dst e ⟨g, o, none⟩ c l hs he hd (fun j hj => by rw [Addr.add_lit]; exact hc j _ (u8E_at l j hj))
  · obtain rfl : n = 0 := by omega
    obtain rfl := List.eq_nil_of_length_eq_zero hn.symm
    rw [run_convert_bytes_string w src dst e A 0 c hs he hd]
    cases A <;> simp [Conv.bytesToString, loadCells]
    all_goals rfl
theorem cells_at8 {w : World} {g : Nat} {t : TypeId} {cs : Array Value} {l : List Value} (hb : Blk w g t cs) (hl : cs.toList = l) : ∀ j u, l[j]? = some u → w.cell? ((⟨g, 0, none⟩ : Addr).add j) = some u := by
  intro j u hu
  rw [Addr.add_lit, Nat.zero_add, hb.cell, ← hu, ← hl]
  simp
/-- Bytes that are handed back. -/
structure BytR (t : TypeId) (w : World) (L : List UInt8) (e : Ending) (w' : World) : Prop where
  o : ∃ (A : Option Addr) (m c : Nat), e = .returned (.slice A m c) ∧ m = L.length ∧ Row w' (From w.heap.size) t 1 A m c (u8E L) ∧ Below w.heap.size w w'

end Go.Proofs.YtogjokofmfpmgaaGreatDoor
namespace Go.Proofs.YtogjokofmfpmgaaGreatDoor
open Go.RowKit

theorem byteCells_u8E (s : ByteArray) : byteCells s = u8E s.data.toList := rfl

theorem run_append_str {P : Program} (w : World) (S : Nat → Prop) (t tx ty e : TypeId) (i : TypeInfo) (z : Value) (bytes : Nat) (ht : P.underlying t = some (.slice e)) (htx : P.underlying tx = some .string) (hi : P.info? e = some i) (hz : i.zero = some z)
    (hsize : i.size = 1) (hby : i.bytes = bytes) (hzs : z.cells.size = 1) (A : Option Addr) (n cap : Nat) (xs : List Value) (hr : Row w S e 1 A n cap xs) (s : ByteArray)
    (h63 : n + s.size ≤ maxLen) (hbytes : (n + s.size) * bytes ≤ 140737488355328) :
    ∃ A' c' w', (Builtin.append_ #[t, tx] ty #[.slice A n cap, .string s]).run P w = .ok (.slice A' (n + s.size) c') w' ∧ Row w' (Plus S w.heap.size) e 1 A' (n + s.size) c' (xs ++ u8E s.data.toList) ∧ Chg S w w' := by
  subst hby
  have hs : Src P i.size tx (.string s) s.size (byteCells s) w := by rw [hsize]; exact Src.ofString w htx s
  have hnl : (byteCells s).length = s.size := byteCells_length s
  have hlen : (xs ++ byteCells s).length = (n + s.size) * 1 := by rw [List.length_append, hr.len, hnl]; omega
  rw [← byteCells_u8E]
  by_cases h0 : 0 < s.size
  case neg =>
    have h0 : s.size = 0 := by omega
    have hnil : byteCells s = [] := List.eq_nil_of_length_eq_zero (by rw [hnl, h0])
    rw [hnil, h0] at hs
    rw [hnil, h0]
    have hrun := run_append_nothing (P := P) w t tx ty e i ht hi A n cap hr.cap.1 (.string s) hs
    exact ⟨A, cap, w, hrun, by simpa using hr.mono (fun q hq => .inl hq), Chg.refl _ _⟩
  case pos =>
  have hsmall : n + s.size ≤ 9223372036854775807 := by simp only [maxLen] at h63; omega
  by_cases hroom : n + s.size ≤ cap
  · cases A with
    | none => have := hr.none_; omega
    | some ad =>
      obtain ⟨g, cur, rfl, hS, hb, hnc, hcm, hcs, htake⟩ := hr.block rfl
      have hst := run_storeCells_at P g n e (byteCells s) 0 cur w hb (by rw [hnl]; omega) hs.one
      simp only [Nat.add_zero] at hst
      refine ⟨some ⟨g, 0, none⟩, cap, w.setRow g (cur.toList.take n ++ byteCells s ++ cur.toList.drop (n + (byteCells s).length)).toArray, ?_, Row.of_block (hb.setRow _) (.inl hS) hroom hcm ?_ ?_ hlen, (Chg.refl S w).setRow (.inl hS) _⟩
      · have hcs := hs.cells
        rw [hsize] at hcs
        simp [Builtin.append_, run_underlying ht, run_underlying htx, sizeOf, typeInfo, hi, hs.len, hroom, hcs, Addr.add_lit, hsize, hst]
      · simp only [List.size_toArray, List.length_append, List.length_take, List.length_drop, Array.length_toList, hnl]
        omega
      · rw [Nat.mul_one] at htake
        rw [htake, ← hlen]
        exact List.take_left
  · have hold : (Builtin.firstCells i.size n (.slice A n cap)).run P w.drew = .ok xs.toArray w.drew := by
      cases A with
      | none =>
        obtain ⟨_, _, rfl⟩ := hr.none_
        exact run_firstCells_none w.drew i.size n n cap
      | some ad =>
        obtain ⟨g, cur, rfl, _⟩ := hr.block rfl
        have holds : ∀ j u, xs[j]? = some u → w.cell? ((⟨g, 0, none⟩ : Addr).add j) = some u := hr.own.cells (g := g) rfl
        rw [hsize]
        exact run_firstCells_some w.drew 1 n ⟨g, 0, none⟩ n cap xs hr.len holds
    have hrun := run_append_grow_src (P := P) w t tx ty e i z ht hi hz A n cap xs hold (.string s) s.size (byteCells s) hs (by omega) (by omega) (growslice_fits (by omega) hbytes)
    have hge := grownCap_ge w (n + s.size) cap e
    have hcm : grownCap w (n + s.size) cap e ≤ maxLen := grownCap_le_maxLen w (n + s.size) cap e h63
    refine ⟨_, _, _, hrun, Row.of_block (Blk.new w.drew e _) (.inr (Nat.le_refl _)) hge hcm ?_ ?_ hlen, (Chg.refl S w).drew.alloc _⟩
    · simp only [Array.size_append, List.size_toArray, size_zeroCells, hzs, List.length_append, hr.len, hnl]
      omega
    · simp only [Array.toList_append, List.append_assoc]
      rw [← List.append_assoc, ← hlen]
      exact List.take_left
theorem wpList_append_str {P : Program} {w : World} {Q : Exit → Act → World → Prop} {a : Act} {ops : Array Oper} {rest : List Oper} {o : Oper} (hgd : o.guard = none) (s x : Operand) (t tx : TypeId)
    (ho : o.op = .call { callee := .builtin .append, args := #[s, x], argTypes := #[t, tx] })
    (S : Nat → Prop) (e : TypeId) (i : TypeInfo) (z : Value) (bytes : Nat) (ht : P.underlying t = some (.slice e)) (htx : P.underlying tx = some .string) (hi : P.info? e = some i) (hz : i.zero = some z)
    (hsize : i.size = 1) (hby : i.bytes = bytes) (hzs : z.cells.size = 1) (A : Option Addr) (n cap : Nat) (xs : List Value) (hs : a.eval s = .slice A n cap) (hr : Row w S e 1 A n cap xs)
    (b : ByteArray) (hx : a.eval x = .string b) (h63 : n + b.size ≤ maxLen) (hbytes : (n + b.size) * bytes ≤ 140737488355328)
    (h : ∀ A' c' w', Row w' (Plus S w.heap.size) e 1 A' (n + b.size) c' (xs ++ u8E b.data.toList) → Chg S w w' → wpList P ops Q rest (a.put o.dst (.slice A' (n + b.size) c')) w') : wpList P ops Q (o :: rest) a w :=
  wpList_plain hgd fun K hK => by
    obtain ⟨A', c', w', hrun, h2, h3⟩ := run_append_str (P := P) w S t tx o.type e i z bytes ht htx hi hz hsize hby hzs A n cap xs hr b h63 hbytes
    unfold Oper.wp execOp
    simp only [ho, resolve, invoke, builtin, Sem.run_bind, Sem.run_pure, Result.andThen_ok, List.map_toArray, List.map_cons, List.map_nil, hs, hx, hrun]
    exact hK _ _ (h A' c' w' h2 h3)

end Go.Proofs.YtogjokofmfpmgaaGreatDoor
