/-
  Requests: stray.
-/
import Derived.Test.YtogjokofmfpmgaaGreatDoorGAH
import Derived.Deep.CutRange
import Derived.Test.YtogjokofmfpmgaaGreatDoorGAD
import Derived.Test.YtogjokofmfpmgaaGreatDoorGAG
import Derived.Test.YtogjokofmfpmgaaGreatDoorGAB
import Derived.Sort.Grow
import Derived.Shelf.SlSortCmp.NoneTotal
import Derived.Shelf.SlLaysF0
import Derived.Test.YtogjokofmfpmgaaGreatDoorProg
import Derived.Laws.StructEq
set_option linter.unusedVariables false
set_option linter.unusedSimpArgs false
namespace Go.Proofs.YtogjokofmfpmgaaGreatDoor
open Go.RowKit

theorem shapeA {k : Int} (h : isK k = true) : (hT k = true ∧ hC k = false ∧ hU k = false ∧ hCd k = false ∧ hCn k = false) ∨ (hT k = false ∧ hC k = true ∧ hU k = false ∧ hCd k = false ∧ hCn k = false) ∨ (hT k = false ∧ hC k = true ∧ hU k = true ∧ hCd k = true ∧ hCn k = true) ∨
    (hT k = false ∧ hC k = true ∧ hU k = true ∧ hCd k = false ∧ hCn k = true) ∨ (hT k = false ∧ hC k = true ∧ hU k = true ∧ hCd k = false ∧ hCn k = false) ∨ (hT k = false ∧ hC k = false ∧ hU k = false ∧ hCd k = false ∧ hCn k = false) := by
  rcases kind_or h with rfl | rfl | rfl | rfl | rfl | rfl | rfl | rfl | rfl | rfl | rfl <;> decide
theorem shapeB {k : Int} (h : isK k = true) : (hO k = true ∧ hTk k = false ∧ hM k = false ∧ hTi k = false) ∨ (hO k = false ∧ hTk k = true ∧ hM k = true ∧ hTi k = false) ∨ (hO k = false ∧ hTk k = true ∧ hM k = false ∧ hTi k = true) ∨ (hO k = false ∧ hTk k = false ∧ hM k = false ∧ hTi k = false) := by
  rcases kind_or h with rfl | rfl | rfl | rfl | rfl | rfl | rfl | rfl | rfl | rfl | rfl <;> decide
/-- The three parts of 'stray'. -/
def strA (h1 h2 h3 h4 h5 : Bool) (tn col uid card : List UInt8) (ck cv : Int) : Bool := (!h1 && decide (tn ≠ [])) || (!h2 && decide (col ≠ [])) || (!h3 && decide (uid ≠ [])) || (!h4 && decide (card ≠ [])) || (!h5 && (decide (ck ≠ 0) || decide (cv ≠ 0)))
def strB (h6 h7 h8 h9 : Bool) (ops : List OpV) (tok most ticks : Int) : Bool := (!h6 && decide (ops ≠ [])) || (!h7 && decide (tok ≠ 0)) || (!h8 && decide (most ≠ 0)) || (!h9 && decide (ticks ≠ 0))
def strC (ops : List OpV) : Bool := ops.any (fun o => o.del && decide (o.card ≠ []))
theorem str_parts (q : Rq) : strayB q = (strA (hT q.k) (hC q.k) (hU q.k) (hCd q.k) (hCn q.k) q.tn q.col q.uid q.card q.ck q.cv || (strB (hO q.k) (hTk q.k) (hM q.k) (hTi q.k) q.ops q.tok q.most q.ticks || strC q.ops)) := by
  unfold strayB strA strB strC
  simp only [Bool.or_assoc]
structure SA (h1 h2 h3 h4 h5 : Bool) (tn col uid card : List UInt8) (ck cv : Int) (sa : Bool) : Prop where
  a1 : h1 = false → ¬ (bs tn).toList = [] → sa = true
  a2 : h2 = false → ¬ (bs col).toList = [] → sa = true
  a3 : h3 = false → ¬ (bs uid).toList = [] → sa = true
  a4 : h4 = false → ¬ (bs card).toList = [] → sa = true
  a5 : h5 = false → ¬ ck = 0 → sa = true
  a6 : h5 = false → ¬ cv = 0 → sa = true
  a0 : (h1 = false → (bs tn).toList = []) → (h2 = false → (bs col).toList = []) → (h3 = false → (bs uid).toList = []) → (h4 = false → (bs card).toList = []) → (h5 = false → ck = 0 ∧ cv = 0) → sa = false
theorem SA.mk_ {h1 h2 h3 h4 h5 : Bool} {tn col uid card : List UInt8} {ck cv : Int} {sa : Bool} (hA : strA h1 h2 h3 h4 h5 tn col uid card ck cv = sa) : SA h1 h2 h3 h4 h5 tn col uid card ck cv sa := by
  have a1 : h1 = false → ¬ (bs tn).toList = [] → sa = true := fun e1 e2 => by rw [bs_toL] at e2; rw [← hA, strA, e1]; simp [e2]
  have a2 : h2 = false → ¬ (bs col).toList = [] → sa = true := fun e1 e2 => by rw [bs_toL] at e2; rw [← hA, strA, e1]; simp [e2]
  have a3 : h3 = false → ¬ (bs uid).toList = [] → sa = true := fun e1 e2 => by rw [bs_toL] at e2; rw [← hA, strA, e1]; simp [e2]
  have a4 : h4 = false → ¬ (bs card).toList = [] → sa = true := fun e1 e2 => by rw [bs_toL] at e2; rw [← hA, strA, e1]; simp [e2]
  have a5 : h5 = false → ¬ ck = 0 → sa = true := fun e1 e2 => by rw [← hA, strA, e1]; simp [e2]
  have a6 : h5 = false → ¬ cv = 0 → sa = true := fun e1 e2 => by rw [← hA, strA, e1]; simp [e2]
  have a0 : (h1 = false → (bs tn).toList = []) → (h2 = false → (bs col).toList = []) → (h3 = false → (bs uid).toList = []) → (h4 = false → (bs card).toList = []) → (h5 = false → ck = 0 ∧ cv = 0) → sa = false := fun e1 e2 e3 e4 e5 => by
    rw [bs_toL] at e1 e2 e3 e4
    rw [← hA, strA]
    cases h1 <;> cases h2 <;> cases h3 <;> cases h4 <;> cases h5 <;> simp_all
  exact ⟨a1, a2, a3, a4, a5, a6, a0⟩
structure SZ (h6 h7 h8 h9 : Bool) (n : Nat) (tok most ticks : Int) (sB : Bool) : Prop where
  z1 : h6 = false → 0 < n → sB = true
  z2 : h7 = false → ¬ tok = 0 → sB = true
  z3 : h8 = false → ¬ most = 0 → sB = true
  z4 : h9 = false → (ticks != 0) = true → sB = true
  z0 : (h6 = false → ¬ 0 < n) → (h7 = false → tok = 0) → (h8 = false → most = 0) → (h9 = false → (ticks != 0) = false) → sB = false
  zt : (h6 = false → ¬ 0 < n) → (h7 = false → tok = 0) → (h8 = false → most = 0) → h9 = false → (ticks != 0) = sB
theorem SZ.mk_ {h6 h7 h8 h9 : Bool} {ops : List OpV} {tok most ticks : Int} {sB : Bool} (hB : strB h6 h7 h8 h9 ops tok most ticks = sB) : SZ h6 h7 h8 h9 ops.length tok most ticks sB := by
  have z1 : h6 = false → 0 < ops.length → sB = true := fun e1 e2 => by rw [← hB, strB, e1]; simp [List.ne_nil_of_length_pos e2]
  have z2 : h7 = false → ¬ tok = 0 → sB = true := fun e1 e2 => by rw [← hB, strB, e1]; simp [e2]
  have z3 : h8 = false → ¬ most = 0 → sB = true := fun e1 e2 => by rw [← hB, strB, e1]; simp [e2]
  have z4 : h9 = false → (ticks != 0) = true → sB = true := fun e1 e2 => by rw [← hB, strB, e1]; simp at e2; simp [e2]
  have z0 : (h6 = false → ¬ 0 < ops.length) → (h7 = false → tok = 0) → (h8 = false → most = 0) → (h9 = false → (ticks != 0) = false) → sB = false := fun e1 e2 e3 e4 => by
    have e1' : h6 = false → ops = [] := fun h => List.eq_nil_of_length_eq_zero (by have := e1 h; omega)
    have e4' : h9 = false → ticks = 0 := fun h => by have := e4 h; simpa using this
    rw [← hB, strB]
    cases h6 <;> cases h7 <;> cases h8 <;> cases h9 <;> simp_all
  exact ⟨z1, z2, z3, z4, z0, fun e1 e2 e3 e4 => by
    cases ht : (ticks != 0) with
    | true => exact (z4 e4 ht).symm
    | false => exact (z0 e1 e2 e3 (fun _ => ht)).symm⟩
theorem vb {a b : Bool} (h : a = b) : Value.bool a = Value.bool b := by rw [h]

set_option maxRecDepth 100000 in
set_option maxHeartbeats 8000000 in
theorem stray_calls (q : Rq) (A : Option Addr) (c : Nat) (h : isK q.k = true) (w : World) (hr : Rds w A q.ops.length 5 (opsE q.ops)) (hb : q.ops.length ≤ 1000000) :
    Calls Tryz.prog 66 #[reqV q A c, .agg (hasE q.k).toArray] w fun e w' => e = .returned (.bool (strayB q)) ∧ Below w.heap.size w w' := by
  have hsa := shapeA h
  have hsb := shapeB h
  obtain ⟨sb, hsq⟩ : ∃ sb, strayB q = sb := ⟨_, rfl⟩
  rw [hsq]
  rw [str_parts q] at hsq
  obtain ⟨k, tn, col, uid, card, ck, cv, ops, tok, most, ticks⟩ := q
  simp only at *
  unfold reqV reqE hasE
  simp only
  generalize hT k = h1 at *
  generalize hC k = h2 at *
  generalize hU k = h3 at *
  generalize hCd k = h4 at *
  generalize hCn k = h5 at *
  generalize hO k = h6 at *
  generalize hTk k = h7 at *
  generalize hM k = h8 at *
  generalize hTi k = h9 at *
  obtain ⟨sa, hA⟩ : ∃ sa, strA h1 h2 h3 h4 h5 tn col uid card ck cv = sa := ⟨_, rfl⟩
  obtain ⟨sB, hB⟩ : ∃ sB, strB h6 h7 h8 h9 ops tok most ticks = sB := ⟨_, rfl⟩
  rw [hA, hB] at hsq
  have HS := hd hsq
  have FA := hd (SA.mk_ hA)
  have FZ := SZ.mk_ hB
  obtain ⟨n, hn⟩ : ∃ n, ops.length = n := ⟨_, rfl⟩
  have HN := hd hn
  rw [hn] at hr hb FZ ⊢
  replace FZ := hd FZ
  have HR := hd hr
  clear hA hB hsq hn hr
  obtain ⟨X, hX⟩ : ∃ X, X = (w.alloc (.cells #[.int .i64 k, .string (bs tn), .string (bs col), .string (bs uid), .string (bs card), .int .i64 ck, .int .i64 cv, .slice A n c, .int .i64 tok, .int .i64 most, .int .i64 ticks] 26)).alloc (.cells #[.bool h1, .bool h2, .bool h3, .bool h4, .bool h5, .bool h6, .bool h7, .bool h8, .bool h9] 78) := ⟨_, rfl⟩
  have q1 : Blk X w.heap.size 26 #[.int .i64 k, .string (bs tn), .string (bs col), .string (bs uid), .string (bs card), .int .i64 ck, .int .i64 cv, .slice A n c, .int .i64 tok, .int .i64 most, .int .i64 ticks] := by rw [hX]; exact (Blk.new _ _ _).alloc _
  have q2 : Blk X (w.heap.size + 1) 78 #[.bool h1, .bool h2, .bool h3, .bool h4, .bool h5, .bool h6, .bool h7, .bool h8, .bool h9] := by rw [hX]; exact Blk.new_ _ _ (by simp) _ _
  have HBX := hd (show Below w.heap.size w X by rw [hX]; exact twoB _ _ _)
  have r1 := q1.at_ 1 rfl
  have r2 := q1.at_ 2 rfl
  have r3 := q1.at_ 3 rfl
  have r4 := q1.at_ 4 rfl
  have r5 := q1.at_ 5 rfl
  have r6 := q1.at_ 6 rfl
  have r7 := q1.at_ 7 rfl
  have r8 := q1.at_ 8 rfl
  have r9 := q1.at_ 9 rfl
  have r10 := q1.at_ 10 rfl
  have t0 := q2.at_ 0 rfl
  have t1 := q2.at_ 1 rfl
  have t2 := q2.at_ 2 rfl
  have t3 := q2.at_ 3 rfl
  have t4 := q2.at_ 4 rfl
  have t5 := q2.at_ 5 rfl
  have t6 := q2.at_ 6 rfl
  have t7 := q2.at_ 7 rfl
  have t8 := q2.at_ 8 rfl
  have HX := hd hX
  clear q1 q2 hX
  go_enter Tryz.func66, Tryz.ntmps66
  go_upto_region 1 with (fail)
  rw [← HX.o]
  go_cut [0, 1, 55] from 7 to 55 (fun _ _ s55 wx => s55 = .bool sa ∧ wx = X)
  case first =>
    clear hsb h
    rcases hsa with ⟨rfl, rfl, rfl, rfl, rfl⟩ | ⟨rfl, rfl, rfl, rfl, rfl⟩ | ⟨rfl, rfl, rfl, rfl, rfl⟩ | ⟨rfl, rfl, rfl, rfl, rfl⟩ | ⟨rfl, rfl, rfl, rfl, rfl⟩ | ⟨rfl, rfl, rfl, rfl, rfl⟩
    all_goals
      go_wp2_with fail
      all_goals
        go_meet
        first
          | exact ⟨vb (FA.o.a1 rfl (by assumption)).symm, rfl⟩
          | exact ⟨vb (FA.o.a2 rfl (by assumption)).symm, rfl⟩
          | exact ⟨vb (FA.o.a3 rfl (by assumption)).symm, rfl⟩
          | exact ⟨vb (FA.o.a4 rfl (by assumption)).symm, rfl⟩
          | exact ⟨vb (FA.o.a5 rfl (by assumption)).symm, rfl⟩
          | exact ⟨vb (FA.o.a6 rfl (by assumption)).symm, rfl⟩
          | exact ⟨vb (FA.o.a0 (fun h => by first | assumption | cases h) (fun h => by first | assumption | cases h) (fun h => by first | assumption | cases h) (fun h => by first | assumption | cases h) (fun h => by first | exact ⟨by first | assumption | rfl, by first | assumption | rfl⟩ | cases h)).symm, rfl⟩
  case rest =>
  obtain ⟨rfl, hwc⟩ := hcut
  subst hwc
  cases sa with
  | true =>
    go_wp2
    go_ret
    exact ⟨ret_bool (by rw [← HS.o]; rfl), HBX.o⟩
  | false =>
  go_upto_region 3 with (fail)
  go_cut [55, 94] from 56 to 94 (fun _ s94 wx => s94 = .bool sB ∧ wx = wc)
  case first =>
    rcases hsb with ⟨rfl, rfl, rfl, rfl⟩ | ⟨rfl, rfl, rfl, rfl⟩ | ⟨rfl, rfl, rfl, rfl⟩ | ⟨rfl, rfl, rfl, rfl⟩
    all_goals
      go_wp2_with fail
      all_goals
        go_meet
        first
          | exact ⟨vb (FZ.o.z1 rfl (by first | assumption | omega)).symm, rfl⟩
          | exact ⟨vb (FZ.o.z2 rfl (by assumption)).symm, rfl⟩
          | exact ⟨vb (FZ.o.z3 rfl (by assumption)).symm, rfl⟩
          | exact ⟨vb (FZ.o.z4 rfl (by assumption)).symm, rfl⟩
          | exact ⟨vb (FZ.o.z0 (fun h => by first | assumption | omega | cases h) (fun h => by first | assumption | cases h) (fun h => by first | assumption | cases h) (fun h => by first | assumption | cases h)).symm, rfl⟩
          | exact ⟨vb (FZ.o.zt (fun h => by first | assumption | omega | cases h) (fun h => by first | assumption | cases h) (fun h => by first | assumption | cases h) rfl), rfl⟩
  case rest =>
  obtain ⟨rfl, hwd⟩ := hcut
  obtain rfl := hwd
  cases sB with
  | true =>
    go_wp2
    go_ret
    exact ⟨ret_bool (by rw [← HS.o]; rfl), HBX.o⟩
  | false =>
  have HS2 := hd (show strC ops = sb by rw [← HS.o]; rfl)
  clear hsa hsb t0 t1 t2 t3 t4 t5 t6 t7 t8 r1 r2 r3 r4 r5 r6 r8 r9 r10 FA FZ
  go_wp2_with fail
  go_loopw [98, 6] (fun i _ wr => ∃ k : Nat, i = .int .i64 k ∧ k ≤ n ∧ Hd (strC (ops.take k) = false) ∧ Hd (Below w.heap.size w wr) ∧ Hd (Below wc.heap.size wc wr)) (fun i _ _ => n - (intOf i).toNat)
  case atStart => exact ⟨0, rfl, Nat.zero_le _, hd rfl, HBX, hd (Below.refl _ _)⟩
  case round =>
    obtain ⟨k, rfl, hk, HV, HB, HBC⟩ := hrel
    have hki : (0 : Int) ≤ (k : Int) := by omega
    by_cases hlt : k < n
    · have hlti : (k : Int) < (n : Int) := by omega
      have hkl : k < ops.length := by rw [HN.o]; exact hlt
      obtain ⟨g, o, rfl, hg, hc⟩ := HR.o.at_ (by omega)
      obtain ⟨x, hx⟩ : ∃ x, ops[k]'hkl = x := ⟨_, rfl⟩
      have HT : Hd (ops.take (k + 1) = ops.take k ++ [x]) := hd (by rw [List.take_succ_eq_append_getElem hkl, hx])
      have HMEM : Hd (x ∈ ops) := hd (by rw [← hx]; exact List.getElem_mem hkl)
      have hcell : ∀ j u, j < 5 → (opEnc x)[j]? = some u → wr.cell? ⟨g, o + (k * 5 + j), none⟩ = some u := fun j u hj hv => (HB.o.cell (p := ⟨g, o + (k * 5 + j), none⟩) hg).trans (hc _ _ ((opsE_at ops k hkl j hj).trans (by rw [hx]; exact hv)))
      obtain ⟨xd, xu, xc, xk, xv⟩ := x
      have k0 := hcell 0 _ (by omega) rfl
      have k1 := hcell 1 _ (by omega) rfl
      have k2 := hcell 2 _ (by omega) rfl
      have k3 := hcell 3 _ (by omega) rfl
      have k4 := hcell 4 _ (by omega) rfl
      rw [← Nat.add_assoc] at k0 k1 k2 k3 k4
      rw [Nat.add_zero] at k0
      have HA := hd (HB.o.alloc HB.o.size (.cells #[.bool xd, .string (bs xu), .string (bs xc), .int .i64 xk, .int .i64 xv] 43))
      have HAC := hd (HBC.o.alloc HBC.o.size (.cells #[.bool xd, .string (bs xu), .string (bs xc), .int .i64 xk, .int .i64 xv] 43))
      have HBAD := hd (show (xd && decide (xc ≠ [])) = true → sb = true from fun h => by
        rw [← HS2.o, strC]
        exact List.any_eq_true.2 ⟨_, HMEM.o, h⟩)
      have HGO := hd (show (xd && decide (xc ≠ [])) = false → strC (ops.take (k + 1)) = false from fun h => by
        have := HV.o
        unfold strC at *
        rw [HT.o, List.any_append, this]
        simpa using h)
      clear hcell hc hx hkl
      cases xd with
      | false =>
        have HG := hd (HGO.o rfl)
        go_wp2
        go_roundw
        case rel => exact ⟨k + 1, by go_num, by omega, HG, HA, HAC⟩
        case measure => simp [intOf]; omega
      | true =>
        by_cases hcc : (bs xc).toList = []
        · have HG := hd (HGO.o (by rw [bs_toL] at hcc; rw [hcc]; rfl))
          go_wp2
          exact ⟨⟨k + 1, by go_num, by omega, HG, HA, HAC⟩, by simp [intOf]; omega⟩
        · have HG := hd (HBAD.o (by rw [bs_toL] at hcc; simpa using hcc))
          have hcc1 : (!(bs xc).toList.isEmpty) = true := by simpa using hcc
          have hcc2 : ((bs xc).toList != []) = true := by simpa using hcc
          have hcc3 : (bs xc).toList.isEmpty = false := by simpa using hcc
          go_wp2
          go_ret
          exact ⟨ret_bool HG.o.symm, HA.o⟩
    · obtain rfl : k = n := by omega
      have HE : Hd (sb = false) := hd (by
        rw [← HS2.o, ← HV.o, List.take_of_length_le (by rw [HN.o]; exact Nat.le_refl _)])
      go_wp2
      go_ret
      exact ⟨ret_bool HE.o.symm, HB.o⟩

end Go.Proofs.YtogjokofmfpmgaaGreatDoor
namespace Go.Proofs.YtogjokofmfpmgaaGreatDoor
open Go.RowKit Go.Sort

def fEnc (f : Fld) : List Value := [.int .i64 f.k, .int .i64 f.l, .string (bs f.v)]
def fsE (l : List Fld) : List Value := l.flatMap fEnc
theorem fEnc_len (f : Fld) : (fEnc f).length = 3 := rfl
theorem fsE_at (l : List Fld) (i : Nat) (h : i < l.length) (j : Nat) (hj : j < 3) : (fsE l)[i * 3 + j]? = (fEnc l[i])[j]? := flat_at fEnc 3 fEnc_len l i h j hj
theorem fsE_app (a b : List Fld) : fsE (a ++ b) = fsE a ++ fsE b := by unfold fsE; rw [List.flatMap_append]
theorem fsE_snoc (a : List Fld) (f : Fld) : fsE (a ++ [f]) = fsE a ++ fEnc f := by rw [fsE_app]; simp [fsE]
theorem fEnc_one (f : Fld) (v : Value) (h : v ∈ fEnc f) : v.oneCell' = true := by
  simp only [fEnc, List.mem_cons, List.mem_nil_iff, or_false] at h
  rcases h with rfl | rfl | rfl <;> rfl
/-- Two boxes behind each other. -/
def two_c (w' w : World) (t : TypeId) (c1 c2 : Array Value) : Prop := Blk w' w.heap.size t c1 ∧ Blk w' (w.heap.size + 1) t c2
theorem two_c_of (w : World) (t : TypeId) (c1 c2 : Array Value) (os : Array Obj) : two_c (grow ((w.alloc (.cells c1 t)).alloc (.cells c2 t)) os) w t c1 c2 := by
  have h1 : Blk ((w.alloc (.cells c1 t)).alloc (.cells c2 t)) w.heap.size t c1 := (Blk.new w t c1).alloc _
  have h2 : Blk ((w.alloc (.cells c1 t)).alloc (.cells c2 t)) (w.heap.size + 1) t c2 := Blk.new_ _ _ (by simp) _ _
  exact ⟨(heap_grow_old _ _ h1.lt).trans h1, (heap_grow_old _ _ h2.lt).trans h2⟩

end Go.Proofs.YtogjokofmfpmgaaGreatDoor
namespace Go.Proofs.YtogjokofmfpmgaaGreatDoor
open Go.Shelf
def sortFs_ren : Go.Shelf.Ren := ⟨fun | 6 => 124 | 15 => 145 | 14 => 144 | 28 => 171 | 29 => 172 | 20 => 163 | 21 => 164 | 22 => 165 | 23 => 166 | 24 => 167 | 25 => 168 | 26 => 169 | 27 => 170 | 46 => 183 | 47 => 184 | 48 => 185 | 49 => 186 | 50 => 187 | 57 => 197 | n => n, fun | 22 => 118 | 24 => 128 | 25 => 147 | 3 => 3 | 39 => 110 | 0 => 0 | 53 => 171 | 55 => 126 | 4 => 4 | 46 => 178 | 45 => 177 | 50 => 182 | 5 => 5 | 9 => 9 | 66 => 197 | 70 => 201 | 76 => 205 | 77 => 206 | n => n, fun | n => n⟩
theorem sortFs : Go.Proofs.SlLaysF0.n6 Tryz.prog sortFs_ren := {
  mixed := by kernel_rfl
  f6 := ⟨Tryz.f124.name, by decide, Tryz.func124.trans (congrArg some (by kernel_rfl))⟩
  f14 := ⟨Tryz.f144.name, by decide, Tryz.func144.trans (congrArg some (by kernel_rfl))⟩
  f15 := Tryz.func145.trans (congrArg some (by kernel_rfl))
  f20 := ⟨Tryz.f163.name, by decide, Tryz.func163.trans (congrArg some (by kernel_rfl))⟩
  f21 := ⟨Tryz.f164.name, by decide, Tryz.func164.trans (congrArg some (by kernel_rfl))⟩
  f22 := ⟨Tryz.f165.name, by decide, Tryz.func165.trans (congrArg some (by kernel_rfl))⟩
  f23 := ⟨Tryz.f166.name, by decide, Tryz.func166.trans (congrArg some (by kernel_rfl))⟩
  f24 := ⟨Tryz.f167.name, by decide, Tryz.func167.trans (congrArg some (by kernel_rfl))⟩
  f25 := ⟨Tryz.f168.name, by decide, Tryz.func168.trans (congrArg some (by kernel_rfl))⟩
  f26 := ⟨Tryz.f169.name, by decide, Tryz.func169.trans (congrArg some (by kernel_rfl))⟩
  f27 := ⟨Tryz.f170.name, by decide, Tryz.func170.trans (congrArg some (by kernel_rfl))⟩
  f28 := Tryz.func171.trans (congrArg some (by kernel_rfl))
  f29 := Tryz.func172.trans (congrArg some (by kernel_rfl))
  f46 := ⟨Tryz.f183.name, by decide, Tryz.func183.trans (congrArg some (by kernel_rfl))⟩
  f47 := Tryz.func184.trans (congrArg some (by kernel_rfl))
  f48 := Tryz.func185.trans (congrArg some (by kernel_rfl))
  f49 := ⟨Tryz.f186.name, by decide, Tryz.func186.trans (congrArg some (by kernel_rfl))⟩
  f50 := ⟨Tryz.f187.name, by decide, Tryz.func187.trans (congrArg some (by kernel_rfl))⟩
  f57 := ⟨Tryz.f197.name, by decide, Tryz.func197.trans (congrArg some (by kernel_rfl))⟩
  t0 := Tryz.underlying0
  a0 := Tryz.isAgg0
  z0 := Tryz.sizeOf0
  v0 := Tryz.zeroValue0
  t3 := Tryz.underlying3
  a3 := Tryz.isAgg3
  z3 := Tryz.sizeOf3
  v3 := Tryz.zeroValue3
  t4 := Tryz.underlying4
  a4 := Tryz.isAgg4
  z4 := Tryz.sizeOf4
  v4 := Tryz.zeroValue4
  t5 := Tryz.underlying5
  a5 := Tryz.isAgg5
  z5 := Tryz.sizeOf5
  v5 := Tryz.zeroValue5
  t9 := Tryz.underlying9
  a9 := Tryz.isAgg9
  z9 := Tryz.sizeOf9
  v9 := Tryz.zeroValue9
  t22 := Tryz.underlying118
  a22 := Tryz.isAgg118
  z22 := Tryz.sizeOf118
  v22 := Tryz.zeroValue118
  t25 := Tryz.underlying147
  a25 := Tryz.isAgg147
  z25 := Tryz.sizeOf147
  v25 := Tryz.zeroValue147
  t39 := Tryz.underlying110
  a39 := Tryz.isAgg110
  z39 := Tryz.sizeOf110
  v39 := Tryz.zeroValue110
  t45 := Tryz.underlying177
  a45 := Tryz.isAgg177
  z45 := Tryz.sizeOf177
  v45 := Tryz.zeroValue177
  t46 := Tryz.underlying178
  a46 := Tryz.isAgg178
  z46 := Tryz.sizeOf178
  v46 := Tryz.zeroValue178
  t50 := Tryz.underlying182
  a50 := Tryz.isAgg182
  z50 := Tryz.sizeOf182
  v50 := Tryz.zeroValue182
  t53 := Tryz.underlying171
  a53 := Tryz.isAgg171
  z53 := Tryz.sizeOf171
  v53 := Tryz.zeroValue171
  t55 := Tryz.underlying126
  a55 := Tryz.isAgg126
  z55 := Tryz.sizeOf126
  v55 := Tryz.zeroValue126
  t66 := Tryz.underlying197
  a66 := Tryz.isAgg197
  z66 := Tryz.sizeOf197
  v66 := Tryz.zeroValue197
  t70 := Tryz.underlying201
  a70 := Tryz.isAgg201
  z70 := Tryz.sizeOf201
  v70 := Tryz.zeroValue201
  t76 := Tryz.underlying205
  a76 := Tryz.isAgg205
  z76 := Tryz.sizeOf205
  v76 := Tryz.zeroValue205
  t77 := Tryz.underlying206
  a77 := Tryz.isAgg206
  z77 := Tryz.sizeOf206
  v77 := Tryz.zeroValue206 }
end Go.Proofs.YtogjokofmfpmgaaGreatDoor
namespace Go.Proofs.YtogjokofmfpmgaaGreatDoor
open Go.RowKit Go.Shelf Go.Lib Go.Sort

instance : Inhabited Fld := ⟨noFld⟩
def fCmp (x y : Fld) : Int := if lessF x y = true then -1 else if lessF y x = true then 1 else 0
theorem lessF_eq (x y : Fld) : lessF x y = true ↔ LessP x y := by simp [lessF]
theorem ltOf_f (x y : Fld) : ltOf fCmp x y = lessF x y := by
  rw [Bool.eq_iff_iff]
  simp only [ltOf, fCmp, decide_eq_true_iff]
  by_cases h1 : lessF x y = true
  · simp [h1]
  · by_cases h2 : lessF y x = true <;> simp [h1, h2]
theorem swo_f : SWO (ltOf fCmp) where
  irrefl x := by rw [ltOf_f]; simp [lessF, less_irr]
  trans x y z h1 h2 := by
    rw [ltOf_f, lessF_eq] at *
    exact less_trans h1 h2
  ntrans x y z h1 h2 := by
    rw [ltOf_f] at *
    have e1 : ¬ LessP x y := by rw [← lessF_eq]; simp [h1]
    have e2 : ¬ LessP y z := by rw [← lessF_eq]; simp [h2]
    have : ¬ LessP x z := by
      intro h
      by_cases hxy : x = y
      · subst hxy; exact e2 h
      · have := less_not e1 hxy
        exact e2 (less_trans this h)
    simpa [lessF] using this

set_option maxHeartbeats 1000000 in
theorem less_grow (f g : Fld) (w : World) : Calls Tryz.prog 146 #[fldV f, fldV g] w fun e w' => e = .returned (.bool (lessF f g)) ∧ ∃ os', w' = grow w os' := by
  obtain ⟨v, hv⟩ : ∃ v, lessF f g = v := ⟨_, rfl⟩
  rw [hv]
  have HV : Hd (decide (LessP f g) = v) := hd hv
  have hs := bytesLess_dec f.v g.v
  clear hv
  obtain ⟨fk, fl, fv⟩ := f
  obtain ⟨gk, gl, gv⟩ := g
  change Calls _ _ #[.agg #[.int .i64 fk, .int .i64 fl, .string (bs fv)], .agg #[.int .i64 gk, .int .i64 gl, .string (bs gv)]] _ _
  by_cases h1 : fk = gk
  · by_cases h2 : fl = gl
    · subst h1 h2
      have HX := hd (show decide (compareBytes fv gv < 0) = v by
        rw [← HV.o]; congr 1; simp [LessP])
      go_enter Tryz.func146, Tryz.ntmps146
      go_wp2
      go_ret
      exact ⟨retBB (by rw [HX.o]), _, by rw [alloc_eq_grow, alloc_eq_grow, grow_grow]⟩
    · subst h1
      have n2 : (fl != gl) = true := by simpa using h2
      have HX := hd (show decide (fl < gl) = v by
        rw [← HV.o]; congr 1; simp [LessP, h2])
      clear h2
      go_enter Tryz.func146, Tryz.ntmps146
      go_wp2
      go_ret
      exact ⟨retBB (by rw [HX.o]), _, by rw [alloc_eq_grow, alloc_eq_grow, grow_grow]⟩
  · have n1 : (fk != gk) = true := by simpa using h1
    have HX := hd (show decide (fk < gk) = v by
      rw [← HV.o]; congr 1; simp [LessP, h1])
    clear h1
    go_enter Tryz.func146, Tryz.ntmps146
    go_wp2
    go_ret
    exact ⟨retBB (by rw [HX.o]), _, by rw [alloc_eq_grow, alloc_eq_grow, grow_grow]⟩

theorem retII {a b : Int} (h : a = b) : Ending.returned (.int .i64 a) = .returned (.int .i64 b) := by rw [h]
set_option maxHeartbeats 1000000 in
theorem order_calls (x y : Fld) (W : World) : Calls Tryz.prog 125 #[.agg (fEnc x).toArray, .agg (fEnc y).toArray] W fun e w' => e = .returned (.int .i64 (fCmp x y)) ∧ ∃ q os', w' = grow (W.drewN q) os' := by
  have L1 := less_grow x y
  have L2 := less_grow y x
  obtain ⟨v, hv⟩ : ∃ v, fCmp x y = v := ⟨_, rfl⟩
  rw [hv]
  have HV := hd hv
  clear hv
  unfold fCmp at HV
  obtain ⟨xk, xl, xv⟩ := x
  obtain ⟨yk, yl, yv⟩ := y
  simp only [fldV] at L1 L2
  simp only [fEnc]
  generalize bs xv = XV at L1 L2 ⊢
  generalize bs yv = YV at L1 L2 ⊢
  have hC : ∀ os, two_c (grow ((W.alloc (.cells #[.int .i64 xk, .int .i64 xl, .string XV] 128)).alloc (.cells #[.int .i64 yk, .int .i64 yl, .string YV] 128)) os) W 128 #[.int .i64 xk, .int .i64 xl, .string XV] #[.int .i64 yk, .int .i64 yl, .string YV] := fun os => two_c_of _ _ _ _ _
  cases h1 : lessF ⟨xk, xl, xv⟩ ⟨yk, yl, yv⟩ with
  | true =>
    rw [h1] at L1 HV
    have H1 := hd L1
    clear L1 L2 h1
    go_enter Tryz.func125, Tryz.ntmps125
    go_wp2_with fail
    refine (H1.o _).mono ?_
    rintro e w1 ⟨rfl, os, rfl⟩
    go_wp2
    go_ret
    exact ⟨retII (by rw [← HV.o]; rfl), 0, _, by rw [alloc_eq_grow, alloc_eq_grow, grow_grow, grow_grow]; rfl⟩
  | false =>
    rw [h1] at L1 HV
    cases h2 : lessF ⟨yk, yl, yv⟩ ⟨xk, xl, xv⟩ with
    | true =>
      rw [h2] at L2 HV
      have H1 := hd L1
      have H2 := hd L2
      clear L1 L2 h1 h2
      go_enter Tryz.func125, Tryz.ntmps125
      go_wp2_with fail
      refine (H1.o _).mono ?_
      rintro e w1 ⟨rfl, os, rfl⟩
      obtain ⟨k1, k2⟩ := hC os
      have a0 := k1.at_ 0 rfl
      have a1 := k1.at_ 1 rfl
      have a2 := k1.at_ 2 rfl
      have b0 := k2.at_ 0 rfl
      have b1 := k2.at_ 1 rfl
      have b2 := k2.at_ 2 rfl
      clear k1 k2
      go_wp2_with fail
      clear a0 a1 a2 b0 b1 b2
      refine (H2.o _).mono ?_
      rintro e w1 ⟨rfl, os2, rfl⟩
      go_wp2
      go_ret
      exact ⟨retII (by rw [← HV.o]; rfl), 0, _, by rw [alloc_eq_grow, alloc_eq_grow, grow_grow, grow_grow, grow_grow]; rfl⟩
    | false =>
      rw [h2] at L2 HV
      have H1 := hd L1
      have H2 := hd L2
      clear L1 L2 h1 h2
      go_enter Tryz.func125, Tryz.ntmps125
      go_wp2_with fail
      refine (H1.o _).mono ?_
      rintro e w1 ⟨rfl, os, rfl⟩
      obtain ⟨k1, k2⟩ := hC os
      have a0 := k1.at_ 0 rfl
      have a1 := k1.at_ 1 rfl
      have a2 := k1.at_ 2 rfl
      have b0 := k2.at_ 0 rfl
      have b1 := k2.at_ 1 rfl
      have b2 := k2.at_ 2 rfl
      clear k1 k2
      go_wp2_with fail
      clear a0 a1 a2 b0 b1 b2
      refine (H2.o _).mono ?_
      rintro e w1 ⟨rfl, os2, rfl⟩
      go_wp2
      go_ret
      exact ⟨retII (by rw [← HV.o]; rfl), 0, _, by rw [alloc_eq_grow, alloc_eq_grow, grow_grow, grow_grow, grow_grow]; rfl⟩

theorem fsE_len (l : List Fld) : (fsE l).length = l.length * 3 := flat_length fEnc 3 fEnc_len l
theorem fsE_at3 (l : List Fld) (t : Nat) (ht : t < l.length * 3) : (fsE l)[t]? = some (fEnc (l[t / 3]?.getD default))[t % 3]! := by
  have hk : t / 3 < l.length := by omega
  have h := flat_at fEnc 3 fEnc_len l (t / 3) hk (t % 3) (Nat.mod_lt _ (by decide))
  have ht2 : t / 3 * 3 + t % 3 = t := by omega
  rw [ht2] at h
  show (l.flatMap fEnc)[t]? = _
  rw [h]
  have hx : l[t / 3]?.getD default = l[t / 3] := by simp [hk]
  rw [hx]
  have hl : t % 3 < (fEnc l[t / 3]).length := by rw [fEnc_len]; exact Nat.mod_lt _ (by decide)
  rw [getElem!_pos (fEnc (l[t / 3])) (t % 3) hl, List.getElem?_eq_getElem hl]

/-- SortFunc. -/
def SortFs : Prop := ∀ (w : World) (S : Nat → Prop) (A : Option Addr) (n c : Nat) (l : List Fld), n = l.length → Row w S 128 3 A n c (fsE l) → n ≤ 1000000 →
  Calls Tryz.prog 124 #[.slice A n c, .func (.func 125) #[] #[]] w fun e w' => e = .returned (.tuple #[]) ∧ ∃ l' : List Fld, l'.Perm l ∧ l'.Pairwise (fun x y => lessF y x = false) ∧ Row w' S 128 3 A n c (fsE l') ∧ Chg (Of A) w w'

theorem holdsK_of_row {w : World} {S : Nat → Prop} {g n c : Nat} {l : List Fld} (hr : Row w S 128 3 (some ⟨g, 0, none⟩) n c (fsE l)) (hn : n = l.length) : HoldsK fEnc 3 w g 0 l.toArray := by
  intro t ht
  rw [size_flatK] at ht
  simp only [List.size_toArray] at ht
  obtain ⟨g', hA, _, _, _, _, hc, hf⟩ := hr.at_ (by omega)
  injection hA with hA
  injection hA with hA
  subst hA
  refine ⟨?_, hf _⟩
  rw [Nat.zero_add]
  refine hc t _ ?_
  rw [get_flatK _ _ _ _ (by simpa using ht)]
  have hk : t / 3 < l.length := by omega
  have hx : (l.toArray)[t / 3]! = l[t / 3]?.getD default := by
    rw [getElem!_pos _ _ (by simpa using hk)]
    simp [hk]
  rw [hx]
  exact fsE_at3 l t (by omega)

theorem flat_toList (l : List Fld) : (flatK fEnc 3 l.toArray).toList = fsE l := by
  apply List.ext_getElem?
  intro t
  by_cases ht : t < l.length * 3
  · rw [fsE_at3 l t ht, Array.getElem?_toList, Array.getElem?_eq_getElem (by rw [size_flatK]; simpa using ht)]
    rw [← getElem!_pos _ t (by rw [size_flatK]; simpa using ht), get_flatK _ _ _ _ (by simpa using ht)]
    have hx : (l.toArray)[t / 3]! = l[t / 3]?.getD default := by
      rw [getElem!_pos _ _ (by simp; omega)]
      simp [show t / 3 < l.length by omega]
    rw [hx]
  · rw [List.getElem?_eq_none (by rw [Array.length_toList, size_flatK]; simp; omega), List.getElem?_eq_none (by rw [fsE_len]; omega)]

/-- Behind the sort the same slice owns the sorted row. -/
theorem row_sorted {w : World} {S : Nat → Prop} {g n c m : Nat} {l l' : List Fld} {os : Array Obj} (hr : Row w S 128 3 (some ⟨g, 0, none⟩) n c (fsE l)) (hn : n = l.length) (hl : l'.length = l.length) :
    Row (sortWorldK fEnc 3 w g 0 m l'.toArray os) S 128 3 (some ⟨g, 0, none⟩) n c (fsE l') ∧ Chg (Of (some ⟨g, 0, none⟩)) w (sortWorldK fEnc 3 w g 0 m l'.toArray os) := by
  obtain ⟨g', cur, e, hS, hb, hnc, hcm, hcs, ht⟩ := hr.block rfl
  injection e with e
  subst e
  have hg := hb.lt
  have hF : (flatK fEnc 3 l'.toArray).size = n * 3 := by rw [size_flatK]; simp [hl, hn]
  have hbl : Blk (sortWorldK fEnc 3 w g 0 m l'.toArray os) g 128 (putCells id 0 (flatK fEnc 3 l'.toArray) cur) := by
    unfold Blk sortWorldK
    rw [heap_grow_old _ _ (by simpa [putRowK] using hg)]
    unfold Blk at hb
    simp [putRowK, putRow, mapBlock, Sort.ahead, Array.getElem?_modify, hb, onCells]
  refine ⟨Row.of_block hbl hS hnc hcm (by simp [putCells, hcs]) ?_ (by rw [fsE_len, hl, hn]), ⟨rfl, rfl, rfl, by simp [sortWorldK, putRowK], fun k hk hne => ?_⟩⟩
  · rw [← flat_toList, ← hF]
    apply List.ext_getElem?
    intro j
    by_cases hj : j < (flatK fEnc 3 l'.toArray).size
    · have hjc : j < cur.size := by omega
      rw [List.getElem?_take_of_lt hj, Array.getElem?_toList, Array.getElem?_toList]
      generalize flatK fEnc 3 l'.toArray = F at hj hF
      simp [putCells, hj, hjc]
    · rw [List.getElem?_take_eq_none (by omega), List.getElem?_eq_none (by rw [Array.length_toList]; omega)]
  · unfold sortWorldK
    rw [heap_grow_old _ _ (by simpa [putRowK] using hk)]
    have : g ≠ k := fun e => hne (by rw [← e]; rfl)
    simp [putRowK, putRow, mapBlock, Sort.ahead, Array.getElem?_modify, this]

theorem cmpLays_f (blk off size : Nat) (w : World) : CmpLays Tryz.prog 125 #[] fEnc 3 fCmp blk off size w :=
  fun _ _ _ _ x y => order_calls x y _

theorem sortFs_holds : SortFs := by
  intro w S A n c l hn hr hsz
  cases A with
  | none =>
    obtain ⟨rfl, rfl, h3⟩ := hr.none_
    have hl : l = [] := List.eq_nil_of_length_eq_zero hn.symm
    subst hl
    have hcon := AnyF.slices_SortFunc_none sortFs none 0 (.func (.func 125) #[] #[]) w
    change Calls Tryz.prog 124 _ _ _ at hcon
    refine hcon.mono ?_
    rintro e w' ⟨rfl, rfl⟩
    exact ⟨rfl, [], List.Perm.refl _, List.Pairwise.nil, hr, Chg.refl _ _⟩
  | some a =>
    obtain ⟨g, cur, rfl, _⟩ := hr.block rfl
    have eg : ∀ args w, (callFunc 125 args).run Tryz.prog w = .ok (.enter 125 args) w := enters_of Tryz.func125 (by kernel_rfl) rfl
    by_cases h0 : n = 0
    · subst h0
      have hl : l = [] := List.eq_nil_of_length_eq_zero hn.symm
      subst hl
      have hcon := AnyF.slices_SortFunc_none sortFs (some ⟨g, 0, none⟩) c (.func (.func 125) #[] #[]) w
      change Calls Tryz.prog 124 _ _ _ at hcon
      refine hcon.mono ?_
      rintro e w' ⟨rfl, rfl⟩
      exact ⟨rfl, [], List.Perm.refl _, List.Pairwise.nil, hr, Chg.refl _ _⟩
    · have hcon := AnyQ.slices_SortFunc sortFs 3 Tryz.isAgg128 Tryz.sizeOf128 fEnc (fun _ => rfl) (fun x v hv => fEnc_one x v hv) fCmp swo_f 125 #[] g 0 c l.toArray w eg (cmpLays_f g 0 _ w) (holdsK_of_row hr hn) (hr.lt rfl) (by simp; omega)
      change Calls Tryz.prog 124 _ _ _ at hcon
      have he : l.toArray.size = n := by simp [hn]
      rw [he] at hcon
      refine hcon.mono ?_
      rintro e w' ⟨rfl, d', m, os, hp, hs, rfl⟩
      have hd : d'.toList.Perm l := by
        have := hp.2.2
        have e1 : d'.size = n := by rw [hp.1, he]
        rw [← e1, Array.extract_size] at this
        rw [show d'.size = l.toArray.size by rw [e1, he], Array.extract_size] at this
        simpa using this
      have hrow := row_sorted (m := m) (os := os) (l' := d'.toList) hr hn hd.length_eq
      simp only [Array.toArray_toList] at hrow
      refine ⟨rfl, d'.toList, hd, ?_, hrow.1, hrow.2⟩
      rw [List.pairwise_iff_getElem]
      intro i j hi hj hij
      have := hs i j (Nat.zero_le _) hij (by rw [← he, ← hp.1]; simpa using hj)
      rw [ltOf_f] at this
      simp only [Array.length_toList] at hi hj
      rw [getElem!_pos d' j hj, getElem!_pos d' i hi] at this
      simpa using this

end Go.Proofs.YtogjokofmfpmgaaGreatDoor
namespace Go.Proofs.YtogjokofmfpmgaaGreatDoor
open Go.RowKit

theorem row_setk3 {w : World} {S : Nat → Prop} {e size n c g : Nat} {xs : List Value} (h : Row w S e size (some ⟨g, 0, none⟩) n c xs) (j : Nat) (u : Value) : Row (w.setCell ⟨g, j, none⟩ u) S e size (some ⟨g, 0, none⟩) n c (xs.set j u) := by
  obtain ⟨g', cur, e1, hS, hB, hnc, hcm, hcs, ht⟩ := h.block rfl
  injection e1 with e1
  subst e1
  refine Row.of_block (hB.set_ j u) hS hnc hcm (by simp [hcs]) ?_ (by simpa using h.len)
  rw [← ht]
  simp [List.take_set]
theorem fsE_set (f : Fld) : ∀ (l : List Fld) (q : Nat), q < l.length → fsE (l.set q f) = (((fsE l).set (q * 3) (.int .i64 f.k)).set (q * 3 + 1) (.int .i64 f.l)).set (q * 3 + 2) (.string (bs f.v))
  | [], q, h => by simp at h
  | a :: t, 0, _ => by simp [fsE, fEnc]
  | a :: t, q + 1, h => by
    have ih := fsE_set f t q (by simpa using h)
    have e : (q + 1) * 3 = q * 3 + 3 := by omega
    rw [List.set_cons_succ, e]
    unfold fsE at *
    rw [List.flatMap_cons, List.flatMap_cons, ih]
    simp [fEnc]
theorem zeroCells_any (zs : List Value) (n : Nat) : ∀ v ∈ (Builtin.zeroCells zs.toArray n).toList, 0 < zs.length → v ∈ zs := by
  intro v hv h0
  simp only [Builtin.zeroCells, Array.toList_map, List.mem_map] at hv
  obtain ⟨i, _, rfl⟩ := hv
  have : i % zs.length < zs.length := Nat.mod_lt _ h0
  simp [this]
theorem run_clear_many {P : Program} (w : World) (t e : TypeId) (z : Value) (zs : List Value) (ht : P.underlying t = some (.slice e)) (hv : ∀ w, (zeroValue e).run P w = .ok z w) (hz : z.cells = zs.toArray) (h0 : 0 < zs.length) (h1 : ∀ v ∈ zs, v.oneCell' = true)
    (g o m c : Nat) (hm : 0 < m) (cur : Array Value) (hb : Blk w g e cur) (hl : o + m * zs.length ≤ cur.size) :
    ∃ ns : List Value, ns.length = m * zs.length ∧ ∀ ty, (Builtin.clear_ #[t] ty #[.slice (some ⟨g, o, none⟩) m c]).run P w = .ok (.tuple #[]) (w.setRow g (cur.toList.take o ++ ns ++ cur.toList.drop (o + ns.length)).toArray) := by
  have hln : (Builtin.zeroCells zs.toArray m).toList.length = m * zs.length := by simp [Builtin.zeroCells]
  refine ⟨(Builtin.zeroCells zs.toArray m).toList, hln, fun ty => ?_⟩
  have hst := run_storeCells_at P g o e (Builtin.zeroCells zs.toArray m).toList 0 cur w hb (by rw [hln]; simpa using hl) (fun v hv => h1 v (zeroCells_any zs m v hv h0))
  simp only [Nat.add_zero] at hst
  obtain ⟨m', rfl⟩ : ∃ k, m = k + 1 := ⟨m - 1, by omega⟩
  simp [Builtin.clear_, run_underlying ht, hv, hz, hst]

/-- So far all are unlike. -/
def Cpo (l : List Fld) (k : Nat) : Prop := dedup (l.take k) = l.take k
/-- Behind the first two that are alike: what is left stands ahead, what is to come stands as it stood. -/
structure Cpi (l : List Fld) (p j q : Nat) (cur : List Fld) : Prop where
  len : cur.length = l.length
  hp : p + 1 < l.length
  le : q + 1 ≤ p + 1 + (j + 1)
  hq : q = (dedup (l.take (p + 1 + (j + 1)))).length
  d : cur.take q = dedup (l.take (p + 1 + (j + 1)))
  o : ∀ i, p + 1 + j ≤ i → i < l.length → cur[i]? = l[i]?
theorem cpo_1 (l : List Fld) (h : 0 < l.length) : Cpo l 1 := dedup_one l h
theorem cpo_next {l : List Fld} {p : Nat} (h : Cpo l (p + 1)) (hl : p + 1 < l.length) (hn : l[p + 1] ≠ l[p]) : Cpo l (p + 1 + 1) := by
  unfold Cpo at *
  rw [show p + 1 + 1 = p + 2 from rfl, dedup_new l p hl hn, h, List.take_succ_eq_append_getElem hl]
theorem cpi_start {l : List Fld} {p : Nat} (h : Cpo l (p + 1)) (hl : p + 1 < l.length) (hn : l[p + 1] = l[p]) : Cpi l p 0 (p + 1) l := by
  have e : dedup (l.take (p + 1 + (0 + 1))) = l.take (p + 1) := by
    show dedup (l.take (p + 2)) = _
    rw [dedup_same l p hl hn]; exact h
  refine ⟨rfl, hl, by omega, ?_, e.symm, fun _ _ _ => rfl⟩
  rw [e, List.length_take]; omega
theorem cpi_same {l cur : List Fld} {p j q : Nat} (h : Cpi l p j q cur) (hl : p + 1 + (j + 1) < l.length) (hn : l[p + 1 + (j + 1)] = l[p + 1 + j]) : Cpi l p (j + 1) q cur := by
  have e : dedup (l.take (p + 1 + (j + 1 + 1))) = dedup (l.take (p + 1 + (j + 1))) := dedup_same l (p + 1 + j) hl hn
  exact ⟨h.len, h.hp, by have := h.le; omega, by rw [e]; exact h.hq, by rw [e]; exact h.d, fun i hi hl => h.o i (by omega) hl⟩
theorem cpi_new {l cur : List Fld} {p j q : Nat} (h : Cpi l p j q cur) (hl : p + 1 + (j + 1) < l.length) (hn : l[p + 1 + (j + 1)] ≠ l[p + 1 + j]) : Cpi l p (j + 1) (q + 1) (cur.set q l[p + 1 + (j + 1)]) := by
  have e : dedup (l.take (p + 1 + (j + 1 + 1))) = dedup (l.take (p + 1 + (j + 1))) ++ [l[p + 1 + (j + 1)]] := dedup_new l (p + 1 + j) hl hn
  have hq := h.le
  have hlen := h.len
  refine ⟨by simpa using h.len, h.hp, by omega, ?_, ?_, fun i hi hl => ?_⟩
  · rw [e, List.length_append, ← h.hq]; rfl
  · rw [e, ← h.d]
    have hqc : q < cur.length := by omega
    rw [List.take_succ_eq_append_getElem (by simpa using hqc)]
    simp
    exact List.take_set_of_le (Nat.le_refl _)
  · rw [List.getElem?_set_ne (by omega)]
    exact h.o i (by omega) hl
theorem fld_cases (x y : Fld) : x = y ∨ (x.k == y.k) = false ∨ (x.k = y.k ∧ (x.l == y.l) = false) ∨ (x.k = y.k ∧ x.l = y.l ∧ ((bs x.v).toList == (bs y.v).toList) = false) := by
  have e : ∀ l : List UInt8, (bs l).toList = l := fun l => by rw [Lib.toList_data]; rfl
  rw [e, e]
  by_cases h1 : x.k = y.k
  · by_cases h2 : x.l = y.l
    · by_cases h3 : x.v = y.v
      · exact .inl (fld_ext h1 h2 h3)
      · exact .inr (.inr (.inr ⟨h1, h2, by simpa using h3⟩))
    · exact .inr (.inr (.inl ⟨h1, by simpa using h2⟩))
  · exact .inr (.inl (by simpa using h1))

set_option maxRecDepth 100000 in
set_option maxHeartbeats 8000000 in
theorem compact_calls (w : World) (S : Nat → Prop) (A : Option Addr) (n c : Nat) (l : List Fld) (hn : n = l.length) (hr : Row w S 128 3 A n c (fsE l)) (hb : n ≤ 1000000) :
    Calls Tryz.prog 126 #[.slice A n c] w fun e w' => (∃ m, e = .returned (.slice A m c) ∧ m = (dedup l).length ∧ Row w' S 128 3 A m c (fsE (dedup l))) ∧ Chg (Of A) w w' := by
  by_cases h2 : n < 2
  · have hdd : dedup l = l := by
      match l, hn with
      | [], _ => rfl
      | [a], _ => simp [dedup, dd1]
      | a :: b :: t, hn => simp at hn; omega
    have HR := hd (And.intro (show n = (dedup l).length by rw [hdd]; exact hn) (show Row w S 128 3 A n c (fsE (dedup l)) by rw [hdd]; exact hr))
    clear hr hdd hn
    go_enter Tryz.func126, Tryz.ntmps126
    go_wp2
    go_ret
    exact ⟨⟨n, rfl, HR.o.1, HR.o.2⟩, Chg.refl _ _⟩
  · obtain ⟨g, cur0, rfl, hgS, _⟩ : ∃ g cur0, A = some ⟨g, 0, none⟩ ∧ S g ∧ Blk w g 128 cur0 := by
      obtain ⟨g, rfl, hg, _⟩ := hr.at_ (by omega)
      obtain ⟨g', cur0, e1, _, hB, _⟩ := hr.block rfl
      injection e1 with e1
      subst e1
      exact ⟨g, cur0, rfl, hg, hB⟩
    have HN := hd hn
    have hcap := hr.cap
    have hc1 : n ≤ c := hcap.1
    have hc2 : c ≤ maxLen := hcap.2
    unfold maxLen at hc2
    have HR := hd hr
    clear hr hn hcap
    go_enter Tryz.func126, Tryz.ntmps126
    go_wp2_with fail
    go_loopw [3, 4, 5, 2] (fun k _ _ _ wr => ∃ (p : Nat), k = .int .i64 (p + 1 : Nat) ∧ p + 1 ≤ n ∧ Hd (Cpo l (p + 1)) ∧ Hd (Row wr S 128 3 (some ⟨g, 0, none⟩) n c (fsE l)) ∧ Hd (Chg (Of (some ⟨g, 0, none⟩)) w wr)) (fun k _ _ _ _ => n - (intOf k).toNat)
    case atStart => exact ⟨0, rfl, by omega, hd (cpo_1 l (by rw [← HN.o]; omega)), HR, hd (Chg.refl _ _)⟩
    case round =>
      obtain ⟨p, rfl, hp, HP, HRW, HC⟩ := hrel
      obtain ⟨wo, rfl⟩ : ∃ wo : World, wo = wr := ⟨_, rfl⟩
      by_cases hlt : p + 1 < n
      · have hlti : decide (((p + 1 : Nat) : Int) < (n : Int)) = true := by simp; omega
        have hpl : p + 1 < l.length := by rw [← HN.o]; exact hlt
        obtain ⟨x, hx⟩ : ∃ x, l[p]'(Nat.lt_of_succ_lt hpl) = x := ⟨_, rfl⟩
        obtain ⟨y, hy⟩ : ∃ y, l[p + 1]'hpl = y := ⟨_, rfl⟩
        have HXY := hd (And.intro hx hy)
        obtain ⟨g', hA', _, _, _, _, hcl, _⟩ := HRW.o.at_ (by omega)
        injection hA' with hA'
        injection hA' with hA'
        subst hA'
        have hcx : ∀ t u, t < 3 → (fEnc x)[t]? = some u → wo.cell? ⟨g, p * 3 + t, none⟩ = some u := fun t u ht hv => hcl _ _ ((fsE_at l p (by omega) t ht).trans (by rw [hx]; exact hv))
        have hcy : ∀ t u, t < 3 → (fEnc y)[t]? = some u → wo.cell? ⟨g, (p + 1) * 3 + t, none⟩ = some u := fun t u ht hv => hcl _ _ ((fsE_at l (p + 1) hpl t ht).trans (by rw [hy]; exact hv))
        have x0 := hcx 0 _ (by omega) rfl
        have x1 := hcx 1 _ (by omega) rfl
        have x2 := hcx 2 _ (by omega) rfl
        have y0 := hcy 0 _ (by omega) rfl
        have y1 := hcy 1 _ (by omega) rfl
        have y2 := hcy 2 _ (by omega) rfl
        simp only [Nat.add_zero] at x0 y0
        have hp0 : (0 : Int) ≤ (p : Int) := by omega
        clear hcl hcx hcy hx hy
        have hcase := fld_cases y x
        have HNE0 := hd (fun h : y ≠ x => h)
        by_cases hyx : y = x
        · have HEQ := hd (show l[p + 1]'hpl = l[p]'(Nat.lt_of_succ_lt hpl) by rw [HXY.o.1, HXY.o.2]; exact hyx)
          have HST := hd (cpi_start HP.o hpl HEQ.o)
          clear hcase HNE0 HEQ HXY
          subst hyx
          obtain ⟨yk, yl, yv⟩ := y
          have hp1 : ((p + 1 : Nat) : Int) ≤ (n : Int) := by omega
          have hnp : p + 1 ≤ n := by omega
          go_wp2_with fail
          go_quiet (fail)
          go_wp2_with fail
          clear x0 x1 x2 y0 y1 y2
          obtain ⟨wj, hwj⟩ : ∃ wj, wj = wo.drewN nq := ⟨_, rfl⟩
          have HRJ := hd (show Row wj S 128 3 (some ⟨g, 0, none⟩) n c (fsE l) by rw [hwj]; exact HRW.o.drewN _)
          have HCJ := hd (show Chg (Of (some ⟨g, 0, none⟩)) w wj by rw [hwj]; exact HC.o.drewN _)
          rw [← hwj]
          clear hwj
          go_loopw [5, 3] (fun k2 k wr => ∃ (j q : Nat) (cur : List Fld), k2 = .int .i64 (j + 1 : Nat) ∧ k = .int .i64 q ∧ p + 1 + (j + 1) ≤ n ∧ q + 1 ≤ p + 1 + (j + 1) ∧ Hd (Cpi l p j q cur) ∧ Hd (Row wr S 128 3 (some ⟨g, 0, none⟩) n c (fsE cur)) ∧ Hd (Chg (Of (some ⟨g, 0, none⟩)) w wr)) (fun k2 _ _ => n - (intOf k2).toNat)
          case atStart => exact ⟨0, p + 1, l, rfl, rfl, by omega, by omega, HST, HRJ, HCJ⟩
          case round =>
            obtain ⟨j, q, cur, rfl, rfl, hj, hq, HI, HRI, HCI⟩ := hrel
            obtain ⟨wi, rfl⟩ : ∃ wi : World, wi = wr := ⟨_, rfl⟩
            by_cases hlt2 : p + 1 + (j + 1) < n
            · have hlti2 : decide (((j + 1 : Nat) : Int) < ((n - (p + 1) : Nat) : Int)) = true := by simp; omega
              have hjl : p + 1 + (j + 1) < l.length := by rw [← HN.o]; exact hlt2
              obtain ⟨x, hx⟩ : ∃ x, l[p + 1 + j]'(Nat.lt_of_succ_lt hjl) = x := ⟨_, rfl⟩
              obtain ⟨y, hy⟩ : ∃ y, l[p + 1 + (j + 1)]'hjl = y := ⟨_, rfl⟩
              have HXY := hd (And.intro hx hy)
              have hlc := HI.o.len
              have ec1 : cur[p + 1 + j]'(by omega) = x := by
                have := HI.o.o (p + 1 + j) (by omega) (by omega)
                rw [List.getElem?_eq_getElem (by omega), List.getElem?_eq_getElem (by omega)] at this
                injection this with this
                rw [this, hx]
              have ec2 : cur[p + 1 + (j + 1)]'(by omega) = y := by
                have := HI.o.o (p + 1 + (j + 1)) (by omega) (by omega)
                rw [List.getElem?_eq_getElem (by omega), List.getElem?_eq_getElem (by omega)] at this
                injection this with this
                rw [this, hy]
              obtain ⟨g', hA', _, hgl, _, _, hcl, hfz⟩ := HRI.o.at_ (by omega)
              injection hA' with hA'
              injection hA' with hA'
              subst hA'
              have hcx : ∀ t u, t < 3 → (fEnc x)[t]? = some u → wi.cell? ⟨g, (p + 1) * 3 + j * 3 + t, none⟩ = some u := fun t u ht hv => by
                rw [show (p + 1) * 3 + j * 3 + t = (p + 1 + j) * 3 + t by omega]
                exact hcl _ _ ((fsE_at cur (p + 1 + j) (by omega) t ht).trans (by rw [ec1]; exact hv))
              have hcy : ∀ t u, t < 3 → (fEnc y)[t]? = some u → wi.cell? ⟨g, (p + 1) * 3 + (j + 1) * 3 + t, none⟩ = some u := fun t u ht hv => by
                rw [show (p + 1) * 3 + (j + 1) * 3 + t = (p + 1 + (j + 1)) * 3 + t by omega]
                exact hcl _ _ ((fsE_at cur (p + 1 + (j + 1)) (by omega) t ht).trans (by rw [ec2]; exact hv))
              have x0 := hcx 0 _ (by omega) rfl
              have x1 := hcx 1 _ (by omega) rfl
              have x2 := hcx 2 _ (by omega) rfl
              have y0 := hcy 0 _ (by omega) rfl
              have y1 := hcy 1 _ (by omega) rfl
              have y2 := hcy 2 _ (by omega) rfl
              simp only [Nat.add_zero] at x0 y0
              clear hcl hcx hcy hx hy ec1 ec2 hlc
              have hcase := fld_cases y x
              by_cases hyx : y = x
              · have HST := hd (cpi_same HI.o hjl (by rw [HXY.o.1, HXY.o.2]; exact hyx))
                clear hcase HXY
                subst hyx
                obtain ⟨yk, yl, yv⟩ := y
                go_wp2_with fail
                go_quiet (fail)
                go_wp2
                go_roundw
                case rel => exact ⟨j + 1, q, cur, by go_num, rfl, by omega, by omega, HST, hd (HRI.o.drewN _), hd (HCI.o.drewN _)⟩
                case measure => simp [intOf]; omega
              · have HST := hd (cpi_new HI.o hjl (by rw [HXY.o.1, HXY.o.2]; exact hyx))
                have hqn : q < cur.length := by rw [HI.o.len, ← HN.o]; omega
                have HEN := hd (fsE_set y cur q hqn)
                rw [HXY.o.2] at HST
                have HNE := hd hyx
                have c0 : wi.frozen? ⟨g, q * 3, none⟩ = false := hfz _
                have c1 : wi.frozen? ⟨g, q * 3 + 1, none⟩ = false := hfz _
                have c2 : wi.frozen? ⟨g, q * 3 + 2, none⟩ = false := hfz _
                have hq1 : ((q : Nat) : Int) < (n : Int) := by omega
                obtain ⟨z, hz⟩ : ∃ z, cur[q]'hqn = z := ⟨_, rfl⟩
                obtain ⟨g', hA', _, _, _, _, hcl, _⟩ := HRI.o.at_ (by omega)
                injection hA' with hA'
                injection hA' with hA'
                subst hA'
                have hcz : ∀ t u, t < 3 → (fEnc z)[t]? = some u → wi.cell? ⟨g, q * 3 + t, none⟩ = some u := fun t u ht hv => hcl _ _ ((fsE_at cur q hqn t ht).trans (by rw [hz]; exact hv))
                have z0 := hcz 0 _ (by omega) rfl
                have z1 := hcz 1 _ (by omega) rfl
                have z2 := hcz 2 _ (by omega) rfl
                simp only [Nat.add_zero] at z0
                clear hcl hcz hz hyx
                rcases hcase with he | he | ⟨he1, he2⟩ | ⟨he1, he2, he3⟩
                · exact absurd he HNE.o
                · obtain ⟨xk, xl, xv⟩ := x
                  obtain ⟨yk, yl, yv⟩ := y
                  obtain ⟨zk, zl, zv⟩ := z
                  simp only at he
                  clear HXY HNE
                  go_wp2_with fail
                  go_quiet (fail)
                  go_wp2
                  go_roundw
                  case rel =>
                    refine ⟨j + 1, q + 1, _, by go_num, by go_num, by omega, by omega, HST, hd ?_, hd ?_⟩
                    · rw [HEN.o]
                      exact row_setk3 (row_setk3 (row_setk3 (HRI.o.drewN _) _ _) _ _) _ _
                    · have hof : ∀ i : Nat, Of (some ⟨g, 0, none⟩) (Addr.block ⟨g, i, none⟩) ∨ w.heap.size ≤ (Addr.block ⟨g, i, none⟩) := fun i => .inl rfl
                      exact (((HCI.o.drewN _).setCell (hof _) _).setCell (hof _) _).setCell (hof _) _
                  case measure => simp [intOf]; omega
                · obtain ⟨xk, xl, xv⟩ := x
                  obtain ⟨yk, yl, yv⟩ := y
                  obtain ⟨zk, zl, zv⟩ := z
                  simp only at he1 he2
                  clear HXY HNE
                  subst he1
                  go_wp2_with fail
                  go_quiet (fail)
                  go_wp2
                  go_roundw
                  case rel =>
                    refine ⟨j + 1, q + 1, _, by go_num, by go_num, by omega, by omega, HST, hd ?_, hd ?_⟩
                    · rw [HEN.o]
                      exact row_setk3 (row_setk3 (row_setk3 (HRI.o.drewN _) _ _) _ _) _ _
                    · have hof : ∀ i : Nat, Of (some ⟨g, 0, none⟩) (Addr.block ⟨g, i, none⟩) ∨ w.heap.size ≤ (Addr.block ⟨g, i, none⟩) := fun i => .inl rfl
                      exact (((HCI.o.drewN _).setCell (hof _) _).setCell (hof _) _).setCell (hof _) _
                  case measure => simp [intOf]; omega
                · obtain ⟨xk, xl, xv⟩ := x
                  obtain ⟨yk, yl, yv⟩ := y
                  obtain ⟨zk, zl, zv⟩ := z
                  simp only at he1 he2 he3
                  clear HXY HNE
                  subst he1 he2
                  go_wp2_with fail
                  go_quiet (fail)
                  go_wp2
                  go_roundw
                  case rel =>
                    refine ⟨j + 1, q + 1, _, by go_num, by go_num, by omega, by omega, HST, hd ?_, hd ?_⟩
                    · rw [HEN.o]
                      exact row_setk3 (row_setk3 (row_setk3 (HRI.o.drewN _) _ _) _ _) _ _
                    · have hof : ∀ i : Nat, Of (some ⟨g, 0, none⟩) (Addr.block ⟨g, i, none⟩) ∨ w.heap.size ≤ (Addr.block ⟨g, i, none⟩) := fun i => .inl rfl
                      exact (((HCI.o.drewN _).setCell (hof _) _).setCell (hof _) _).setCell (hof _) _
                  case measure => simp [intOf]; omega
            · have hlti2 : decide (((j + 1 : Nat) : Int) < ((n - (p + 1) : Nat) : Int)) = false := by simp; omega
              have hjn : p + 1 + (j + 1) = n := by omega
              have HD := hd (show dedup (l.take (p + 1 + (j + 1))) = dedup l by rw [List.take_of_length_le (by rw [← HN.o]; omega)])
              have hqn : q < n := by omega
              have hq1 : ((q : Nat) : Int) ≤ (n : Int) := by omega
              have hq2 : ((q : Nat) : Int) ≤ (c : Int) := by omega
              obtain ⟨g', CA, e1, hS', hCA, _, _, hCs, hCt⟩ := HRI.o.block rfl
              injection e1 with e1
              subst e1
              obtain ⟨ns, hnl, hclr⟩ := run_clear_many (P := Tryz.prog) wi 118 128 (.agg #[.int .i64 0, .int .i64 0, .string ⟨#[]⟩]) [.int .i64 0, .int .i64 0, .string ⟨#[]⟩] Tryz.underlying118 Tryz.zeroValue128 rfl (by decide) (fun v hv => by simp at hv; rcases hv with rfl | rfl | rfl <;> rfl) g (q * 3) (n - q) (c - q) (by omega) CA hCA (by rw [hCs]; simp; omega)
              have hnl' : ns.length = (n - q) * 3 := hnl
              have HNL := hd hnl'
              have HCA := hd hCA
              have HCS := hd hCs
              have HCT := hd hCt
              obtain ⟨NEW, hNEW⟩ : ∃ NEW, (CA.toList.take (q * 3) ++ ns ++ CA.toList.drop (q * 3 + ns.length)).toArray = NEW := ⟨_, rfl⟩
              rw [hNEW] at hclr
              have HNEW := hd hNEW
              clear hnl hnl' hCA hCs hCt hNEW
              go_wp2
              go_ret
              refine ⟨⟨q, rfl, ?_, ?_⟩, ?_⟩
              · rw [← HD.o]; exact HI.o.hq
              · have hcl := HI.o.len
                have h4 : (fsE (dedup l)).length = q * 3 := by
                  rw [show (fsE (dedup l)).length = (dedup l).length * 3 from flat_length fEnc 3 fEnc_len _, ← HD.o, ← HI.o.hq]
                refine Row.of_block (HCA.o.setRow _) hgS (by omega) (by unfold maxLen; omega) ?_ ?_ h4
                · rw [← HNEW.o]
                  simp only [List.size_toArray, List.length_append, List.length_take, List.length_drop, Array.length_toList]
                  rw [HCS.o, HNL.o]; omega
                · rw [← HNEW.o]
                  have h5 : CA.toList.take (q * 3) = fsE (dedup l) := by
                    have : CA.toList.take (q * 3) = (fsE cur).take (q * 3) := by
                      rw [← HCT.o, List.take_take, Nat.min_eq_left (by omega)]
                    rw [this, show (fsE cur).take (q * 3) = fsE (cur.take q) from flat_take fEnc 3 fEnc_len cur q, HI.o.d, HD.o]
                  show List.take (q * 3) (List.take (q * 3) CA.toList ++ ns ++ List.drop (q * 3 + ns.length) CA.toList) = _
                  rw [h5, List.append_assoc, List.take_append_of_le_length (by rw [h4]; exact Nat.le_refl _), List.take_of_length_le (by rw [h4]; exact Nat.le_refl _)]
              · exact HCI.o.setRow (.inl rfl) _
        · have HNE := hd hyx
          clear hyx HNE0
          rcases hcase with he | he | ⟨he1, he2⟩ | ⟨he1, he2, he3⟩
          · exact absurd he HNE.o
          · have HN2 := hd (cpo_next HP.o hpl (by rw [HXY.o.1, HXY.o.2]; exact HNE.o))
            obtain ⟨xk, xl, xv⟩ := x
            obtain ⟨yk, yl, yv⟩ := y
            simp only at he
            clear HXY HNE
            go_wp2_with fail
            go_quiet (fail)
            go_wp2
            go_roundw
            case rel => exact ⟨p + 1, by go_num, by omega, HN2, hd (HRW.o.drewN _), hd (HC.o.drewN _)⟩
            case measure => simp [intOf]; omega
          · have HN2 := hd (cpo_next HP.o hpl (by rw [HXY.o.1, HXY.o.2]; exact HNE.o))
            obtain ⟨xk, xl, xv⟩ := x
            obtain ⟨yk, yl, yv⟩ := y
            simp only at he1 he2
            clear HXY HNE
            subst he1
            go_wp2_with fail
            go_quiet (fail)
            go_wp2
            go_roundw
            case rel => exact ⟨p + 1, by go_num, by omega, HN2, hd (HRW.o.drewN _), hd (HC.o.drewN _)⟩
            case measure => simp [intOf]; omega
          · have HN2 := hd (cpo_next HP.o hpl (by rw [HXY.o.1, HXY.o.2]; exact HNE.o))
            obtain ⟨xk, xl, xv⟩ := x
            obtain ⟨yk, yl, yv⟩ := y
            simp only at he1 he2 he3
            clear HXY HNE
            subst he1 he2
            go_wp2_with fail
            go_quiet (fail)
            go_wp2
            go_roundw
            case rel => exact ⟨p + 1, by go_num, by omega, HN2, hd (HRW.o.drewN _), hd (HC.o.drewN _)⟩
            case measure => simp [intOf]; omega
      · have hlti : decide (((p + 1 : Nat) : Int) < (n : Int)) = false := by simp; omega
        have HD := hd (show dedup l = l by
          have := HP.o
          unfold Cpo at this
          rwa [List.take_of_length_le (by rw [← HN.o]; omega)] at this)
        go_wp2
        go_ret
        exact ⟨⟨n, rfl, by rw [HD.o]; exact HN.o, by rw [HD.o]; exact HRW.o⟩, HC.o⟩

end Go.Proofs.YtogjokofmfpmgaaGreatDoor
