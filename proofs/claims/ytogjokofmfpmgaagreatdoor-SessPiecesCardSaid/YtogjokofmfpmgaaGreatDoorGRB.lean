/-
  henref10.SameReq: two requests alike.
-/
import Derived.Test.YtogjokofmfpmgaaGreatDoorGRA
import Derived.Test.YtogjokofmfpmgaaGreatDoorGAL
import Derived.Deep.QuietTactic
import Derived.Test.YtogjokofmfpmgaaGreatDoorSacLift
set_option linter.unusedVariables false
set_option linter.unusedSimpArgs false
namespace Go.Proofs.YtogjokofmfpmgaaGreatDoor
open Go.RowKit

theorem op_neq (x y : OpV) (W : World) : (binOp .neq 43 (.agg #[.bool x.del, .string (bs x.uid), .string (bs x.card), .int .i64 x.ck, .int .i64 x.cv]) (.agg #[.bool y.del, .string (bs y.uid), .string (bs y.card), .int .i64 y.ck, .int .i64 y.cv])).run Tryz.prog W = .ok (.bool (x != y)) W := by
  have u0 := Tryz.underlying3
  have a0 := Tryz.isAgg3
  have z0 := Tryz.sizeOf3
  have u1 := Tryz.underlying2
  have a1 := Tryz.isAgg2
  have z1 := Tryz.sizeOf2
  have u2 := Tryz.underlying4
  have a2 := Tryz.isAgg4
  have z2 := Tryz.sizeOf4
  have u3 := Tryz.underlying9
  have a3 := Tryz.isAgg9
  have z3 := Tryz.sizeOf9
  have u4 := Tryz.underlying23
  have a4 := Tryz.isAgg23
  have z4 := Tryz.sizeOf23
  have hS : Tryz.prog.underlying 43 = some (.struct (Tryz.prog.fieldsOf 43)) := by kernel_rfl
  have hp : Tryz.prog.stoodInHeld 43 = false := by kernel_rfl
  rw [run_neq_struct, show (10000 : Nat) = 9999 + 1 from rfl, run_equalIn_agg W 9999 43 _ _ hS hp]
  simp only [Program.fieldsOf, Tryz.underlying43]
  go_simp
  obtain ⟨a, b, c, d, f⟩ := x
  obtain ⟨a', b', c', d', f'⟩ := y
  have e : ∀ l : List UInt8, (bs l).toList = l := fun l => by rw [Lib.toList_data]; rfl
  simp only [e]
  by_cases h1 : a = a'
  · by_cases h2 : b = b'
    · by_cases h3 : c = c'
      · by_cases h4 : d = d'
        · by_cases h5 : f = f'
          · simp [h1, h2, h3, h4, h5]
          · simp [h1, h2, h3, h4, h5]
        · simp [h1, h2, h3, h4]
      · simp [h1, h2, h3]
    · simp [h1, h2]
  · simp [h1]
theorem cond_neq (a b a' b' : Int) (W : World) : (binOp .neq 23 (.agg #[.int .i64 a, .int .i64 b]) (.agg #[.int .i64 a', .int .i64 b'])).run Tryz.prog W = .ok (.bool (!(decide (a = a') && decide (b = b')))) W := by
  have u0 := Tryz.underlying3
  have a0 := Tryz.isAgg3
  have z0 := Tryz.sizeOf3
  have u1 := Tryz.underlying2
  have a1 := Tryz.isAgg2
  have z1 := Tryz.sizeOf2
  have hS : Tryz.prog.underlying 23 = some (.struct (Tryz.prog.fieldsOf 23)) := by kernel_rfl
  have hp : Tryz.prog.stoodInHeld 23 = false := by kernel_rfl
  rw [run_neq_struct, show (10000 : Nat) = 9999 + 1 from rfl, run_equalIn_agg W 9999 23 _ _ hS hp]
  simp only [Program.fieldsOf, Tryz.underlying23]
  go_simp
  by_cases h1 : a = a' <;> by_cases h2 : b = b' <;> simp [h1, h2]
theorem op_at (l : List OpV) (k : Nat) (h : k < l.length) : ∃ x, l[k]? = some x ∧ ∀ j, j < 5 → (opsE l)[k * 5 + j]? = (opEnc x)[j]? := ⟨l[k], by simp [h], fun j hj => opsE_at l k h j hj⟩
theorem sstr_ne {a b : List UInt8} (h : a ≠ b) : ((bs a).toList == (bs b).toList) = false := by rw [bs_toL, bs_toL]; simpa using h
theorem sstr_eq (a : List UInt8) : ((bs a).toList == (bs a).toList) = true := by simp

set_option maxRecDepth 100000 in
set_option maxHeartbeats 4000000 in
theorem same_no0 (k : Int) (k' : Int) (tn : List UInt8) (tn' : List UInt8) (col : List UInt8) (col' : List UInt8) (uid : List UInt8) (uid' : List UInt8) (card : List UInt8) (card' : List UInt8) (ck cv : Int) (ck' cv' : Int) (tok : Int) (tok' : Int) (most : Int) (most' : Int) (ticks : Int) (ticks' : Int) (n : Nat) (n' : Nat) (A A' : Option Addr) (c c' : Nat) (w : World) (hb : n ≤ 1000000) (hb' : n' ≤ 1000000) (hne : k ≠ k') :
    Calls Tryz.prog 21 #[.agg #[.int .i64 k, .string (bs tn), .string (bs col), .string (bs uid), .string (bs card), .int .i64 ck, .int .i64 cv, .slice A n c, .int .i64 tok, .int .i64 most, .int .i64 ticks], .agg #[.int .i64 k', .string (bs tn'), .string (bs col'), .string (bs uid'), .string (bs card'), .int .i64 ck', .int .i64 cv', .slice A' n' c', .int .i64 tok', .int .i64 most', .int .i64 ticks']] w fun e w' => e = .returned (.bool false) ∧ Below w.heap.size w w' := by
  have e_k : (k != k') = true := by simpa using hne
  clear hne
  obtain ⟨X, hX⟩ : ∃ X, X = (w.alloc (.cells #[.int .i64 k, .string (bs tn), .string (bs col), .string (bs uid), .string (bs card), .int .i64 ck, .int .i64 cv, .slice A n c, .int .i64 tok, .int .i64 most, .int .i64 ticks] 26)).alloc (.cells #[.int .i64 k', .string (bs tn'), .string (bs col'), .string (bs uid'), .string (bs card'), .int .i64 ck', .int .i64 cv', .slice A' n' c', .int .i64 tok', .int .i64 most', .int .i64 ticks'] 26) := ⟨_, rfl⟩
  have q1 : Blk X w.heap.size 26 #[.int .i64 k, .string (bs tn), .string (bs col), .string (bs uid), .string (bs card), .int .i64 ck, .int .i64 cv, .slice A n c, .int .i64 tok, .int .i64 most, .int .i64 ticks] := by rw [hX]; exact (Blk.new _ _ _).alloc _
  have q2 : Blk X (w.heap.size + 1) 26 #[.int .i64 k', .string (bs tn'), .string (bs col'), .string (bs uid'), .string (bs card'), .int .i64 ck', .int .i64 cv', .slice A' n' c', .int .i64 tok', .int .i64 most', .int .i64 ticks'] := by rw [hX]; exact Blk.new_ _ _ (by simp) _ _
  have HBX := hd (show Below w.heap.size w X by rw [hX]; exact twoB _ _ _)
  have r0 := q1.at_ 0 rfl
  have r1 := q1.at_ 1 rfl
  have r2 := q1.at_ 2 rfl
  have r3 := q1.at_ 3 rfl
  have r4 := q1.at_ 4 rfl
  have r5 := q1.at_ 5 rfl
  have r6 := q1.at_ 6 rfl
  have r7 := q1.at_ 7 rfl
  have r8 := q1.at_ 8 rfl
  have r9 := q1.at_ 9 rfl
  have r10 := q1.at_ 10 rfl
  have t0 := q2.at_ 0 rfl
  have t1 := q2.at_ 1 rfl
  have t2 := q2.at_ 2 rfl
  have t3 := q2.at_ 3 rfl
  have t4 := q2.at_ 4 rfl
  have t5 := q2.at_ 5 rfl
  have t6 := q2.at_ 6 rfl
  have t7 := q2.at_ 7 rfl
  have t8 := q2.at_ 8 rfl
  have t9 := q2.at_ 9 rfl
  have t10 := q2.at_ 10 rfl
  have HX := hd hX
  clear q1 q2 hX
  go_enter Tryz.func21, Tryz.ntmps21
  simp only [List.append_eq, List.cons_append, List.nil_append]
  go_upto_region 1 with (fail)
  rw [← HX.o]
  go_wp2
  go_ret
  exact ⟨rfl, HBX.o⟩
set_option maxRecDepth 100000 in
set_option maxHeartbeats 4000000 in
theorem same_no1 (k : Int) (tn : List UInt8) (tn' : List UInt8) (col : List UInt8) (col' : List UInt8) (uid : List UInt8) (uid' : List UInt8) (card : List UInt8) (card' : List UInt8) (ck cv : Int) (ck' cv' : Int) (tok : Int) (tok' : Int) (most : Int) (most' : Int) (ticks : Int) (ticks' : Int) (n : Nat) (n' : Nat) (A A' : Option Addr) (c c' : Nat) (w : World) (hb : n ≤ 1000000) (hb' : n' ≤ 1000000) (hne : tn ≠ tn') :
    Calls Tryz.prog 21 #[.agg #[.int .i64 k, .string (bs tn), .string (bs col), .string (bs uid), .string (bs card), .int .i64 ck, .int .i64 cv, .slice A n c, .int .i64 tok, .int .i64 most, .int .i64 ticks], .agg #[.int .i64 k, .string (bs tn'), .string (bs col'), .string (bs uid'), .string (bs card'), .int .i64 ck', .int .i64 cv', .slice A' n' c', .int .i64 tok', .int .i64 most', .int .i64 ticks']] w fun e w' => e = .returned (.bool false) ∧ Below w.heap.size w w' := by
  have e_k : (k != k) = false := by simp
  have e_tn := sstr_ne hne
  clear hne
  obtain ⟨X, hX⟩ : ∃ X, X = (w.alloc (.cells #[.int .i64 k, .string (bs tn), .string (bs col), .string (bs uid), .string (bs card), .int .i64 ck, .int .i64 cv, .slice A n c, .int .i64 tok, .int .i64 most, .int .i64 ticks] 26)).alloc (.cells #[.int .i64 k, .string (bs tn'), .string (bs col'), .string (bs uid'), .string (bs card'), .int .i64 ck', .int .i64 cv', .slice A' n' c', .int .i64 tok', .int .i64 most', .int .i64 ticks'] 26) := ⟨_, rfl⟩
  have q1 : Blk X w.heap.size 26 #[.int .i64 k, .string (bs tn), .string (bs col), .string (bs uid), .string (bs card), .int .i64 ck, .int .i64 cv, .slice A n c, .int .i64 tok, .int .i64 most, .int .i64 ticks] := by rw [hX]; exact (Blk.new _ _ _).alloc _
  have q2 : Blk X (w.heap.size + 1) 26 #[.int .i64 k, .string (bs tn'), .string (bs col'), .string (bs uid'), .string (bs card'), .int .i64 ck', .int .i64 cv', .slice A' n' c', .int .i64 tok', .int .i64 most', .int .i64 ticks'] := by rw [hX]; exact Blk.new_ _ _ (by simp) _ _
  have HBX := hd (show Below w.heap.size w X by rw [hX]; exact twoB _ _ _)
  have r0 := q1.at_ 0 rfl
  have r1 := q1.at_ 1 rfl
  have r2 := q1.at_ 2 rfl
  have r3 := q1.at_ 3 rfl
  have r4 := q1.at_ 4 rfl
  have r5 := q1.at_ 5 rfl
  have r6 := q1.at_ 6 rfl
  have r7 := q1.at_ 7 rfl
  have r8 := q1.at_ 8 rfl
  have r9 := q1.at_ 9 rfl
  have r10 := q1.at_ 10 rfl
  have t0 := q2.at_ 0 rfl
  have t1 := q2.at_ 1 rfl
  have t2 := q2.at_ 2 rfl
  have t3 := q2.at_ 3 rfl
  have t4 := q2.at_ 4 rfl
  have t5 := q2.at_ 5 rfl
  have t6 := q2.at_ 6 rfl
  have t7 := q2.at_ 7 rfl
  have t8 := q2.at_ 8 rfl
  have t9 := q2.at_ 9 rfl
  have t10 := q2.at_ 10 rfl
  have HX := hd hX
  clear q1 q2 hX
  go_enter Tryz.func21, Tryz.ntmps21
  simp only [List.append_eq, List.cons_append, List.nil_append]
  go_upto_region 1 with (fail)
  rw [← HX.o]
  go_wp2
  go_ret
  exact ⟨rfl, HBX.o⟩
set_option maxRecDepth 100000 in
set_option maxHeartbeats 4000000 in
theorem same_no2 (k : Int) (tn : List UInt8) (col : List UInt8) (col' : List UInt8) (uid : List UInt8) (uid' : List UInt8) (card : List UInt8) (card' : List UInt8) (ck cv : Int) (ck' cv' : Int) (tok : Int) (tok' : Int) (most : Int) (most' : Int) (ticks : Int) (ticks' : Int) (n : Nat) (n' : Nat) (A A' : Option Addr) (c c' : Nat) (w : World) (hb : n ≤ 1000000) (hb' : n' ≤ 1000000) (hne : col ≠ col') :
    Calls Tryz.prog 21 #[.agg #[.int .i64 k, .string (bs tn), .string (bs col), .string (bs uid), .string (bs card), .int .i64 ck, .int .i64 cv, .slice A n c, .int .i64 tok, .int .i64 most, .int .i64 ticks], .agg #[.int .i64 k, .string (bs tn), .string (bs col'), .string (bs uid'), .string (bs card'), .int .i64 ck', .int .i64 cv', .slice A' n' c', .int .i64 tok', .int .i64 most', .int .i64 ticks']] w fun e w' => e = .returned (.bool false) ∧ Below w.heap.size w w' := by
  have e_k : (k != k) = false := by simp
  have e_tn := sstr_eq tn
  have e_col := sstr_ne hne
  clear hne
  obtain ⟨X, hX⟩ : ∃ X, X = (w.alloc (.cells #[.int .i64 k, .string (bs tn), .string (bs col), .string (bs uid), .string (bs card), .int .i64 ck, .int .i64 cv, .slice A n c, .int .i64 tok, .int .i64 most, .int .i64 ticks] 26)).alloc (.cells #[.int .i64 k, .string (bs tn), .string (bs col'), .string (bs uid'), .string (bs card'), .int .i64 ck', .int .i64 cv', .slice A' n' c', .int .i64 tok', .int .i64 most', .int .i64 ticks'] 26) := ⟨_, rfl⟩
  have q1 : Blk X w.heap.size 26 #[.int .i64 k, .string (bs tn), .string (bs col), .string (bs uid), .string (bs card), .int .i64 ck, .int .i64 cv, .slice A n c, .int .i64 tok, .int .i64 most, .int .i64 ticks] := by rw [hX]; exact (Blk.new _ _ _).alloc _
  have q2 : Blk X (w.heap.size + 1) 26 #[.int .i64 k, .string (bs tn), .string (bs col'), .string (bs uid'), .string (bs card'), .int .i64 ck', .int .i64 cv', .slice A' n' c', .int .i64 tok', .int .i64 most', .int .i64 ticks'] := by rw [hX]; exact Blk.new_ _ _ (by simp) _ _
  have HBX := hd (show Below w.heap.size w X by rw [hX]; exact twoB _ _ _)
  have r0 := q1.at_ 0 rfl
  have r1 := q1.at_ 1 rfl
  have r2 := q1.at_ 2 rfl
  have r3 := q1.at_ 3 rfl
  have r4 := q1.at_ 4 rfl
  have r5 := q1.at_ 5 rfl
  have r6 := q1.at_ 6 rfl
  have r7 := q1.at_ 7 rfl
  have r8 := q1.at_ 8 rfl
  have r9 := q1.at_ 9 rfl
  have r10 := q1.at_ 10 rfl
  have t0 := q2.at_ 0 rfl
  have t1 := q2.at_ 1 rfl
  have t2 := q2.at_ 2 rfl
  have t3 := q2.at_ 3 rfl
  have t4 := q2.at_ 4 rfl
  have t5 := q2.at_ 5 rfl
  have t6 := q2.at_ 6 rfl
  have t7 := q2.at_ 7 rfl
  have t8 := q2.at_ 8 rfl
  have t9 := q2.at_ 9 rfl
  have t10 := q2.at_ 10 rfl
  have HX := hd hX
  clear q1 q2 hX
  go_enter Tryz.func21, Tryz.ntmps21
  simp only [List.append_eq, List.cons_append, List.nil_append]
  go_upto_region 1 with (fail)
  rw [← HX.o]
  go_wp2
  go_ret
  exact ⟨rfl, HBX.o⟩
set_option maxRecDepth 100000 in
set_option maxHeartbeats 4000000 in
theorem same_no3 (k : Int) (tn : List UInt8) (col : List UInt8) (uid : List UInt8) (uid' : List UInt8) (card : List UInt8) (card' : List UInt8) (ck cv : Int) (ck' cv' : Int) (tok : Int) (tok' : Int) (most : Int) (most' : Int) (ticks : Int) (ticks' : Int) (n : Nat) (n' : Nat) (A A' : Option Addr) (c c' : Nat) (w : World) (hb : n ≤ 1000000) (hb' : n' ≤ 1000000) (hne : uid ≠ uid') :
    Calls Tryz.prog 21 #[.agg #[.int .i64 k, .string (bs tn), .string (bs col), .string (bs uid), .string (bs card), .int .i64 ck, .int .i64 cv, .slice A n c, .int .i64 tok, .int .i64 most, .int .i64 ticks], .agg #[.int .i64 k, .string (bs tn), .string (bs col), .string (bs uid'), .string (bs card'), .int .i64 ck', .int .i64 cv', .slice A' n' c', .int .i64 tok', .int .i64 most', .int .i64 ticks']] w fun e w' => e = .returned (.bool false) ∧ Below w.heap.size w w' := by
  have e_k : (k != k) = false := by simp
  have e_tn := sstr_eq tn
  have e_col := sstr_eq col
  have e_uid := sstr_ne hne
  clear hne
  obtain ⟨X, hX⟩ : ∃ X, X = (w.alloc (.cells #[.int .i64 k, .string (bs tn), .string (bs col), .string (bs uid), .string (bs card), .int .i64 ck, .int .i64 cv, .slice A n c, .int .i64 tok, .int .i64 most, .int .i64 ticks] 26)).alloc (.cells #[.int .i64 k, .string (bs tn), .string (bs col), .string (bs uid'), .string (bs card'), .int .i64 ck', .int .i64 cv', .slice A' n' c', .int .i64 tok', .int .i64 most', .int .i64 ticks'] 26) := ⟨_, rfl⟩
  have q1 : Blk X w.heap.size 26 #[.int .i64 k, .string (bs tn), .string (bs col), .string (bs uid), .string (bs card), .int .i64 ck, .int .i64 cv, .slice A n c, .int .i64 tok, .int .i64 most, .int .i64 ticks] := by rw [hX]; exact (Blk.new _ _ _).alloc _
  have q2 : Blk X (w.heap.size + 1) 26 #[.int .i64 k, .string (bs tn), .string (bs col), .string (bs uid'), .string (bs card'), .int .i64 ck', .int .i64 cv', .slice A' n' c', .int .i64 tok', .int .i64 most', .int .i64 ticks'] := by rw [hX]; exact Blk.new_ _ _ (by simp) _ _
  have HBX := hd (show Below w.heap.size w X by rw [hX]; exact twoB _ _ _)
  have r0 := q1.at_ 0 rfl
  have r1 := q1.at_ 1 rfl
  have r2 := q1.at_ 2 rfl
  have r3 := q1.at_ 3 rfl
  have r4 := q1.at_ 4 rfl
  have r5 := q1.at_ 5 rfl
  have r6 := q1.at_ 6 rfl
  have r7 := q1.at_ 7 rfl
  have r8 := q1.at_ 8 rfl
  have r9 := q1.at_ 9 rfl
  have r10 := q1.at_ 10 rfl
  have t0 := q2.at_ 0 rfl
  have t1 := q2.at_ 1 rfl
  have t2 := q2.at_ 2 rfl
  have t3 := q2.at_ 3 rfl
  have t4 := q2.at_ 4 rfl
  have t5 := q2.at_ 5 rfl
  have t6 := q2.at_ 6 rfl
  have t7 := q2.at_ 7 rfl
  have t8 := q2.at_ 8 rfl
  have t9 := q2.at_ 9 rfl
  have t10 := q2.at_ 10 rfl
  have HX := hd hX
  clear q1 q2 hX
  go_enter Tryz.func21, Tryz.ntmps21
  simp only [List.append_eq, List.cons_append, List.nil_append]
  go_upto_region 1 with (fail)
  rw [← HX.o]
  go_wp2
  go_ret
  exact ⟨rfl, HBX.o⟩
set_option maxRecDepth 100000 in
set_option maxHeartbeats 4000000 in
theorem same_no4 (k : Int) (tn : List UInt8) (col : List UInt8) (uid : List UInt8) (card : List UInt8) (card' : List UInt8) (ck cv : Int) (ck' cv' : Int) (tok : Int) (tok' : Int) (most : Int) (most' : Int) (ticks : Int) (ticks' : Int) (n : Nat) (n' : Nat) (A A' : Option Addr) (c c' : Nat) (w : World) (hb : n ≤ 1000000) (hb' : n' ≤ 1000000) (hne : card ≠ card') :
    Calls Tryz.prog 21 #[.agg #[.int .i64 k, .string (bs tn), .string (bs col), .string (bs uid), .string (bs card), .int .i64 ck, .int .i64 cv, .slice A n c, .int .i64 tok, .int .i64 most, .int .i64 ticks], .agg #[.int .i64 k, .string (bs tn), .string (bs col), .string (bs uid), .string (bs card'), .int .i64 ck', .int .i64 cv', .slice A' n' c', .int .i64 tok', .int .i64 most', .int .i64 ticks']] w fun e w' => e = .returned (.bool false) ∧ Below w.heap.size w w' := by
  have e_k : (k != k) = false := by simp
  have e_tn := sstr_eq tn
  have e_col := sstr_eq col
  have e_uid := sstr_eq uid
  have e_card := sstr_ne hne
  clear hne
  obtain ⟨X, hX⟩ : ∃ X, X = (w.alloc (.cells #[.int .i64 k, .string (bs tn), .string (bs col), .string (bs uid), .string (bs card), .int .i64 ck, .int .i64 cv, .slice A n c, .int .i64 tok, .int .i64 most, .int .i64 ticks] 26)).alloc (.cells #[.int .i64 k, .string (bs tn), .string (bs col), .string (bs uid), .string (bs card'), .int .i64 ck', .int .i64 cv', .slice A' n' c', .int .i64 tok', .int .i64 most', .int .i64 ticks'] 26) := ⟨_, rfl⟩
  have q1 : Blk X w.heap.size 26 #[.int .i64 k, .string (bs tn), .string (bs col), .string (bs uid), .string (bs card), .int .i64 ck, .int .i64 cv, .slice A n c, .int .i64 tok, .int .i64 most, .int .i64 ticks] := by rw [hX]; exact (Blk.new _ _ _).alloc _
  have q2 : Blk X (w.heap.size + 1) 26 #[.int .i64 k, .string (bs tn), .string (bs col), .string (bs uid), .string (bs card'), .int .i64 ck', .int .i64 cv', .slice A' n' c', .int .i64 tok', .int .i64 most', .int .i64 ticks'] := by rw [hX]; exact Blk.new_ _ _ (by simp) _ _
  have HBX := hd (show Below w.heap.size w X by rw [hX]; exact twoB _ _ _)
  have r0 := q1.at_ 0 rfl
  have r1 := q1.at_ 1 rfl
  have r2 := q1.at_ 2 rfl
  have r3 := q1.at_ 3 rfl
  have r4 := q1.at_ 4 rfl
  have r5 := q1.at_ 5 rfl
  have r6 := q1.at_ 6 rfl
  have r7 := q1.at_ 7 rfl
  have r8 := q1.at_ 8 rfl
  have r9 := q1.at_ 9 rfl
  have r10 := q1.at_ 10 rfl
  have t0 := q2.at_ 0 rfl
  have t1 := q2.at_ 1 rfl
  have t2 := q2.at_ 2 rfl
  have t3 := q2.at_ 3 rfl
  have t4 := q2.at_ 4 rfl
  have t5 := q2.at_ 5 rfl
  have t6 := q2.at_ 6 rfl
  have t7 := q2.at_ 7 rfl
  have t8 := q2.at_ 8 rfl
  have t9 := q2.at_ 9 rfl
  have t10 := q2.at_ 10 rfl
  have HX := hd hX
  clear q1 q2 hX
  go_enter Tryz.func21, Tryz.ntmps21
  simp only [List.append_eq, List.cons_append, List.nil_append]
  go_upto_region 1 with (fail)
  rw [← HX.o]
  go_wp2
  go_ret
  exact ⟨rfl, HBX.o⟩
set_option maxRecDepth 100000 in
set_option maxHeartbeats 4000000 in
theorem same_no5 (k : Int) (tn : List UInt8) (col : List UInt8) (uid : List UInt8) (card : List UInt8) (ck cv : Int) (ck' cv' : Int) (tok : Int) (tok' : Int) (most : Int) (most' : Int) (ticks : Int) (ticks' : Int) (n : Nat) (n' : Nat) (A A' : Option Addr) (c c' : Nat) (w : World) (hb : n ≤ 1000000) (hb' : n' ≤ 1000000) (hne : ¬ (ck = ck' ∧ cv = cv')) :
    Calls Tryz.prog 21 #[.agg #[.int .i64 k, .string (bs tn), .string (bs col), .string (bs uid), .string (bs card), .int .i64 ck, .int .i64 cv, .slice A n c, .int .i64 tok, .int .i64 most, .int .i64 ticks], .agg #[.int .i64 k, .string (bs tn), .string (bs col), .string (bs uid), .string (bs card), .int .i64 ck', .int .i64 cv', .slice A' n' c', .int .i64 tok', .int .i64 most', .int .i64 ticks']] w fun e w' => e = .returned (.bool false) ∧ Below w.heap.size w w' := by
  have e_k : (k != k) = false := by simp
  have e_tn := sstr_eq tn
  have e_col := sstr_eq col
  have e_uid := sstr_eq uid
  have e_card := sstr_eq card
  have e_cc := cond_neq ck cv ck' cv'
  rw [show (!(decide (ck = ck') && decide (cv = cv'))) = true by simp; omega] at e_cc
  clear hne
  obtain ⟨X, hX⟩ : ∃ X, X = (w.alloc (.cells #[.int .i64 k, .string (bs tn), .string (bs col), .string (bs uid), .string (bs card), .int .i64 ck, .int .i64 cv, .slice A n c, .int .i64 tok, .int .i64 most, .int .i64 ticks] 26)).alloc (.cells #[.int .i64 k, .string (bs tn), .string (bs col), .string (bs uid), .string (bs card), .int .i64 ck', .int .i64 cv', .slice A' n' c', .int .i64 tok', .int .i64 most', .int .i64 ticks'] 26) := ⟨_, rfl⟩
  have q1 : Blk X w.heap.size 26 #[.int .i64 k, .string (bs tn), .string (bs col), .string (bs uid), .string (bs card), .int .i64 ck, .int .i64 cv, .slice A n c, .int .i64 tok, .int .i64 most, .int .i64 ticks] := by rw [hX]; exact (Blk.new _ _ _).alloc _
  have q2 : Blk X (w.heap.size + 1) 26 #[.int .i64 k, .string (bs tn), .string (bs col), .string (bs uid), .string (bs card), .int .i64 ck', .int .i64 cv', .slice A' n' c', .int .i64 tok', .int .i64 most', .int .i64 ticks'] := by rw [hX]; exact Blk.new_ _ _ (by simp) _ _
  have HBX := hd (show Below w.heap.size w X by rw [hX]; exact twoB _ _ _)
  have r0 := q1.at_ 0 rfl
  have r1 := q1.at_ 1 rfl
  have r2 := q1.at_ 2 rfl
  have r3 := q1.at_ 3 rfl
  have r4 := q1.at_ 4 rfl
  have r5 := q1.at_ 5 rfl
  have r6 := q1.at_ 6 rfl
  have r7 := q1.at_ 7 rfl
  have r8 := q1.at_ 8 rfl
  have r9 := q1.at_ 9 rfl
  have r10 := q1.at_ 10 rfl
  have t0 := q2.at_ 0 rfl
  have t1 := q2.at_ 1 rfl
  have t2 := q2.at_ 2 rfl
  have t3 := q2.at_ 3 rfl
  have t4 := q2.at_ 4 rfl
  have t5 := q2.at_ 5 rfl
  have t6 := q2.at_ 6 rfl
  have t7 := q2.at_ 7 rfl
  have t8 := q2.at_ 8 rfl
  have t9 := q2.at_ 9 rfl
  have t10 := q2.at_ 10 rfl
  have HX := hd hX
  clear q1 q2 hX
  go_enter Tryz.func21, Tryz.ntmps21
  simp only [List.append_eq, List.cons_append, List.nil_append]
  go_upto_region 1 with (fail)
  rw [← HX.o]
  go_wp2
  go_ret
  exact ⟨rfl, HBX.o⟩
set_option maxRecDepth 100000 in
set_option maxHeartbeats 4000000 in
theorem same_no6 (k : Int) (tn : List UInt8) (col : List UInt8) (uid : List UInt8) (card : List UInt8) (ck cv : Int) (tok : Int) (tok' : Int) (most : Int) (most' : Int) (ticks : Int) (ticks' : Int) (n : Nat) (n' : Nat) (A A' : Option Addr) (c c' : Nat) (w : World) (hb : n ≤ 1000000) (hb' : n' ≤ 1000000) (hne : tok ≠ tok') :
    Calls Tryz.prog 21 #[.agg #[.int .i64 k, .string (bs tn), .string (bs col), .string (bs uid), .string (bs card), .int .i64 ck, .int .i64 cv, .slice A n c, .int .i64 tok, .int .i64 most, .int .i64 ticks], .agg #[.int .i64 k, .string (bs tn), .string (bs col), .string (bs uid), .string (bs card), .int .i64 ck, .int .i64 cv, .slice A' n' c', .int .i64 tok', .int .i64 most', .int .i64 ticks']] w fun e w' => e = .returned (.bool false) ∧ Below w.heap.size w w' := by
  have e_k : (k != k) = false := by simp
  have e_tn := sstr_eq tn
  have e_col := sstr_eq col
  have e_uid := sstr_eq uid
  have e_card := sstr_eq card
  have e_cc := cond_neq ck cv ck cv
  simp only [decide_true, Bool.and_self, Bool.not_true] at e_cc
  have e_tok : (tok != tok') = true := by simpa using hne
  clear hne
  obtain ⟨X, hX⟩ : ∃ X, X = (w.alloc (.cells #[.int .i64 k, .string (bs tn), .string (bs col), .string (bs uid), .string (bs card), .int .i64 ck, .int .i64 cv, .slice A n c, .int .i64 tok, .int .i64 most, .int .i64 ticks] 26)).alloc (.cells #[.int .i64 k, .string (bs tn), .string (bs col), .string (bs uid), .string (bs card), .int .i64 ck, .int .i64 cv, .slice A' n' c', .int .i64 tok', .int .i64 most', .int .i64 ticks'] 26) := ⟨_, rfl⟩
  have q1 : Blk X w.heap.size 26 #[.int .i64 k, .string (bs tn), .string (bs col), .string (bs uid), .string (bs card), .int .i64 ck, .int .i64 cv, .slice A n c, .int .i64 tok, .int .i64 most, .int .i64 ticks] := by rw [hX]; exact (Blk.new _ _ _).alloc _
  have q2 : Blk X (w.heap.size + 1) 26 #[.int .i64 k, .string (bs tn), .string (bs col), .string (bs uid), .string (bs card), .int .i64 ck, .int .i64 cv, .slice A' n' c', .int .i64 tok', .int .i64 most', .int .i64 ticks'] := by rw [hX]; exact Blk.new_ _ _ (by simp) _ _
  have HBX := hd (show Below w.heap.size w X by rw [hX]; exact twoB _ _ _)
  have r0 := q1.at_ 0 rfl
  have r1 := q1.at_ 1 rfl
  have r2 := q1.at_ 2 rfl
  have r3 := q1.at_ 3 rfl
  have r4 := q1.at_ 4 rfl
  have r5 := q1.at_ 5 rfl
  have r6 := q1.at_ 6 rfl
  have r7 := q1.at_ 7 rfl
  have r8 := q1.at_ 8 rfl
  have r9 := q1.at_ 9 rfl
  have r10 := q1.at_ 10 rfl
  have t0 := q2.at_ 0 rfl
  have t1 := q2.at_ 1 rfl
  have t2 := q2.at_ 2 rfl
  have t3 := q2.at_ 3 rfl
  have t4 := q2.at_ 4 rfl
  have t5 := q2.at_ 5 rfl
  have t6 := q2.at_ 6 rfl
  have t7 := q2.at_ 7 rfl
  have t8 := q2.at_ 8 rfl
  have t9 := q2.at_ 9 rfl
  have t10 := q2.at_ 10 rfl
  have HX := hd hX
  clear q1 q2 hX
  go_enter Tryz.func21, Tryz.ntmps21
  simp only [List.append_eq, List.cons_append, List.nil_append]
  go_upto_region 1 with (fail)
  rw [← HX.o]
  go_wp2
  go_ret
  exact ⟨rfl, HBX.o⟩
set_option maxRecDepth 100000 in
set_option maxHeartbeats 4000000 in
theorem same_no7 (k : Int) (tn : List UInt8) (col : List UInt8) (uid : List UInt8) (card : List UInt8) (ck cv : Int) (tok : Int) (most : Int) (most' : Int) (ticks : Int) (ticks' : Int) (n : Nat) (n' : Nat) (A A' : Option Addr) (c c' : Nat) (w : World) (hb : n ≤ 1000000) (hb' : n' ≤ 1000000) (hne : most ≠ most') :
    Calls Tryz.prog 21 #[.agg #[.int .i64 k, .string (bs tn), .string (bs col), .string (bs uid), .string (bs card), .int .i64 ck, .int .i64 cv, .slice A n c, .int .i64 tok, .int .i64 most, .int .i64 ticks], .agg #[.int .i64 k, .string (bs tn), .string (bs col), .string (bs uid), .string (bs card), .int .i64 ck, .int .i64 cv, .slice A' n' c', .int .i64 tok, .int .i64 most', .int .i64 ticks']] w fun e w' => e = .returned (.bool false) ∧ Below w.heap.size w w' := by
  have e_k : (k != k) = false := by simp
  have e_tn := sstr_eq tn
  have e_col := sstr_eq col
  have e_uid := sstr_eq uid
  have e_card := sstr_eq card
  have e_cc := cond_neq ck cv ck cv
  simp only [decide_true, Bool.and_self, Bool.not_true] at e_cc
  have e_tok : (tok != tok) = false := by simp
  have e_most : (most != most') = true := by simpa using hne
  clear hne
  obtain ⟨X, hX⟩ : ∃ X, X = (w.alloc (.cells #[.int .i64 k, .string (bs tn), .string (bs col), .string (bs uid), .string (bs card), .int .i64 ck, .int .i64 cv, .slice A n c, .int .i64 tok, .int .i64 most, .int .i64 ticks] 26)).alloc (.cells #[.int .i64 k, .string (bs tn), .string (bs col), .string (bs uid), .string (bs card), .int .i64 ck, .int .i64 cv, .slice A' n' c', .int .i64 tok, .int .i64 most', .int .i64 ticks'] 26) := ⟨_, rfl⟩
  have q1 : Blk X w.heap.size 26 #[.int .i64 k, .string (bs tn), .string (bs col), .string (bs uid), .string (bs card), .int .i64 ck, .int .i64 cv, .slice A n c, .int .i64 tok, .int .i64 most, .int .i64 ticks] := by rw [hX]; exact (Blk.new _ _ _).alloc _
  have q2 : Blk X (w.heap.size + 1) 26 #[.int .i64 k, .string (bs tn), .string (bs col), .string (bs uid), .string (bs card), .int .i64 ck, .int .i64 cv, .slice A' n' c', .int .i64 tok, .int .i64 most', .int .i64 ticks'] := by rw [hX]; exact Blk.new_ _ _ (by simp) _ _
  have HBX := hd (show Below w.heap.size w X by rw [hX]; exact twoB _ _ _)
  have r0 := q1.at_ 0 rfl
  have r1 := q1.at_ 1 rfl
  have r2 := q1.at_ 2 rfl
  have r3 := q1.at_ 3 rfl
  have r4 := q1.at_ 4 rfl
  have r5 := q1.at_ 5 rfl
  have r6 := q1.at_ 6 rfl
  have r7 := q1.at_ 7 rfl
  have r8 := q1.at_ 8 rfl
  have r9 := q1.at_ 9 rfl
  have r10 := q1.at_ 10 rfl
  have t0 := q2.at_ 0 rfl
  have t1 := q2.at_ 1 rfl
  have t2 := q2.at_ 2 rfl
  have t3 := q2.at_ 3 rfl
  have t4 := q2.at_ 4 rfl
  have t5 := q2.at_ 5 rfl
  have t6 := q2.at_ 6 rfl
  have t7 := q2.at_ 7 rfl
  have t8 := q2.at_ 8 rfl
  have t9 := q2.at_ 9 rfl
  have t10 := q2.at_ 10 rfl
  have HX := hd hX
  clear q1 q2 hX
  go_enter Tryz.func21, Tryz.ntmps21
  simp only [List.append_eq, List.cons_append, List.nil_append]
  go_upto_region 1 with (fail)
  rw [← HX.o]
  go_wp2
  go_ret
  exact ⟨rfl, HBX.o⟩
set_option maxRecDepth 100000 in
set_option maxHeartbeats 4000000 in
theorem same_no8 (k : Int) (tn : List UInt8) (col : List UInt8) (uid : List UInt8) (card : List UInt8) (ck cv : Int) (tok : Int) (most : Int) (ticks : Int) (ticks' : Int) (n : Nat) (n' : Nat) (A A' : Option Addr) (c c' : Nat) (w : World) (hb : n ≤ 1000000) (hb' : n' ≤ 1000000) (hne : ticks ≠ ticks') :
    Calls Tryz.prog 21 #[.agg #[.int .i64 k, .string (bs tn), .string (bs col), .string (bs uid), .string (bs card), .int .i64 ck, .int .i64 cv, .slice A n c, .int .i64 tok, .int .i64 most, .int .i64 ticks], .agg #[.int .i64 k, .string (bs tn), .string (bs col), .string (bs uid), .string (bs card), .int .i64 ck, .int .i64 cv, .slice A' n' c', .int .i64 tok, .int .i64 most, .int .i64 ticks']] w fun e w' => e = .returned (.bool false) ∧ Below w.heap.size w w' := by
  have e_k : (k != k) = false := by simp
  have e_tn := sstr_eq tn
  have e_col := sstr_eq col
  have e_uid := sstr_eq uid
  have e_card := sstr_eq card
  have e_cc := cond_neq ck cv ck cv
  simp only [decide_true, Bool.and_self, Bool.not_true] at e_cc
  have e_tok : (tok != tok) = false := by simp
  have e_most : (most != most) = false := by simp
  have e_ticks : (ticks != ticks') = true := by simpa using hne
  clear hne
  obtain ⟨X, hX⟩ : ∃ X, X = (w.alloc (.cells #[.int .i64 k, .string (bs tn), .string (bs col), .string (bs uid), .string (bs card), .int .i64 ck, .int .i64 cv, .slice A n c, .int .i64 tok, .int .i64 most, .int .i64 ticks] 26)).alloc (.cells #[.int .i64 k, .string (bs tn), .string (bs col), .string (bs uid), .string (bs card), .int .i64 ck, .int .i64 cv, .slice A' n' c', .int .i64 tok, .int .i64 most, .int .i64 ticks'] 26) := ⟨_, rfl⟩
  have q1 : Blk X w.heap.size 26 #[.int .i64 k, .string (bs tn), .string (bs col), .string (bs uid), .string (bs card), .int .i64 ck, .int .i64 cv, .slice A n c, .int .i64 tok, .int .i64 most, .int .i64 ticks] := by rw [hX]; exact (Blk.new _ _ _).alloc _
  have q2 : Blk X (w.heap.size + 1) 26 #[.int .i64 k, .string (bs tn), .string (bs col), .string (bs uid), .string (bs card), .int .i64 ck, .int .i64 cv, .slice A' n' c', .int .i64 tok, .int .i64 most, .int .i64 ticks'] := by rw [hX]; exact Blk.new_ _ _ (by simp) _ _
  have HBX := hd (show Below w.heap.size w X by rw [hX]; exact twoB _ _ _)
  have r0 := q1.at_ 0 rfl
  have r1 := q1.at_ 1 rfl
  have r2 := q1.at_ 2 rfl
  have r3 := q1.at_ 3 rfl
  have r4 := q1.at_ 4 rfl
  have r5 := q1.at_ 5 rfl
  have r6 := q1.at_ 6 rfl
  have r7 := q1.at_ 7 rfl
  have r8 := q1.at_ 8 rfl
  have r9 := q1.at_ 9 rfl
  have r10 := q1.at_ 10 rfl
  have t0 := q2.at_ 0 rfl
  have t1 := q2.at_ 1 rfl
  have t2 := q2.at_ 2 rfl
  have t3 := q2.at_ 3 rfl
  have t4 := q2.at_ 4 rfl
  have t5 := q2.at_ 5 rfl
  have t6 := q2.at_ 6 rfl
  have t7 := q2.at_ 7 rfl
  have t8 := q2.at_ 8 rfl
  have t9 := q2.at_ 9 rfl
  have t10 := q2.at_ 10 rfl
  have HX := hd hX
  clear q1 q2 hX
  go_enter Tryz.func21, Tryz.ntmps21
  simp only [List.append_eq, List.cons_append, List.nil_append]
  go_upto_region 1 with (fail)
  rw [← HX.o]
  go_wp2
  go_ret
  exact ⟨rfl, HBX.o⟩
set_option maxRecDepth 100000 in
set_option maxHeartbeats 4000000 in
theorem same_no9 (k : Int) (tn : List UInt8) (col : List UInt8) (uid : List UInt8) (card : List UInt8) (ck cv : Int) (tok : Int) (most : Int) (ticks : Int) (n : Nat) (n' : Nat) (A A' : Option Addr) (c c' : Nat) (w : World) (hb : n ≤ 1000000) (hb' : n' ≤ 1000000) (hne : n ≠ n') :
    Calls Tryz.prog 21 #[.agg #[.int .i64 k, .string (bs tn), .string (bs col), .string (bs uid), .string (bs card), .int .i64 ck, .int .i64 cv, .slice A n c, .int .i64 tok, .int .i64 most, .int .i64 ticks], .agg #[.int .i64 k, .string (bs tn), .string (bs col), .string (bs uid), .string (bs card), .int .i64 ck, .int .i64 cv, .slice A' n' c', .int .i64 tok, .int .i64 most, .int .i64 ticks]] w fun e w' => e = .returned (.bool false) ∧ Below w.heap.size w w' := by
  have e_k : (k != k) = false := by simp
  have e_tn := sstr_eq tn
  have e_col := sstr_eq col
  have e_uid := sstr_eq uid
  have e_card := sstr_eq card
  have e_cc := cond_neq ck cv ck cv
  simp only [decide_true, Bool.and_self, Bool.not_true] at e_cc
  have e_tok : (tok != tok) = false := by simp
  have e_most : (most != most) = false := by simp
  have e_ticks : (ticks != ticks) = false := by simp
  have e_n : ((n : Int) != (n' : Int)) = true := by simp; omega
  clear hne
  obtain ⟨X, hX⟩ : ∃ X, X = (w.alloc (.cells #[.int .i64 k, .string (bs tn), .string (bs col), .string (bs uid), .string (bs card), .int .i64 ck, .int .i64 cv, .slice A n c, .int .i64 tok, .int .i64 most, .int .i64 ticks] 26)).alloc (.cells #[.int .i64 k, .string (bs tn), .string (bs col), .string (bs uid), .string (bs card), .int .i64 ck, .int .i64 cv, .slice A' n' c', .int .i64 tok, .int .i64 most, .int .i64 ticks] 26) := ⟨_, rfl⟩
  have q1 : Blk X w.heap.size 26 #[.int .i64 k, .string (bs tn), .string (bs col), .string (bs uid), .string (bs card), .int .i64 ck, .int .i64 cv, .slice A n c, .int .i64 tok, .int .i64 most, .int .i64 ticks] := by rw [hX]; exact (Blk.new _ _ _).alloc _
  have q2 : Blk X (w.heap.size + 1) 26 #[.int .i64 k, .string (bs tn), .string (bs col), .string (bs uid), .string (bs card), .int .i64 ck, .int .i64 cv, .slice A' n' c', .int .i64 tok, .int .i64 most, .int .i64 ticks] := by rw [hX]; exact Blk.new_ _ _ (by simp) _ _
  have HBX := hd (show Below w.heap.size w X by rw [hX]; exact twoB _ _ _)
  have r0 := q1.at_ 0 rfl
  have r1 := q1.at_ 1 rfl
  have r2 := q1.at_ 2 rfl
  have r3 := q1.at_ 3 rfl
  have r4 := q1.at_ 4 rfl
  have r5 := q1.at_ 5 rfl
  have r6 := q1.at_ 6 rfl
  have r7 := q1.at_ 7 rfl
  have r8 := q1.at_ 8 rfl
  have r9 := q1.at_ 9 rfl
  have r10 := q1.at_ 10 rfl
  have t0 := q2.at_ 0 rfl
  have t1 := q2.at_ 1 rfl
  have t2 := q2.at_ 2 rfl
  have t3 := q2.at_ 3 rfl
  have t4 := q2.at_ 4 rfl
  have t5 := q2.at_ 5 rfl
  have t6 := q2.at_ 6 rfl
  have t7 := q2.at_ 7 rfl
  have t8 := q2.at_ 8 rfl
  have t9 := q2.at_ 9 rfl
  have t10 := q2.at_ 10 rfl
  have HX := hd hX
  clear q1 q2 hX
  go_enter Tryz.func21, Tryz.ntmps21
  simp only [List.append_eq, List.cons_append, List.nil_append]
  go_upto_region 1 with (fail)
  rw [← HX.o]
  go_wp2
  go_ret
  exact ⟨rfl, HBX.o⟩
set_option maxRecDepth 100000 in
set_option maxHeartbeats 4000000 in
theorem same_ops (k : Int) (tn col uid card : List UInt8) (ck cv : Int) (l l' : List OpV) (tok most ticks : Int) (n : Nat) (A A' : Option Addr) (c c' : Nat) (w : World) (hn : n = l.length) (hn' : n = l'.length) (hr : Rds w A n 5 (opsE l)) (hr' : Rds w A' n 5 (opsE l')) (hb : n ≤ 1000000) :
    Calls Tryz.prog 21 #[.agg #[.int .i64 k, .string (bs tn), .string (bs col), .string (bs uid), .string (bs card), .int .i64 ck, .int .i64 cv, .slice A n c, .int .i64 tok, .int .i64 most, .int .i64 ticks], .agg #[.int .i64 k, .string (bs tn), .string (bs col), .string (bs uid), .string (bs card), .int .i64 ck, .int .i64 cv, .slice A' n c', .int .i64 tok, .int .i64 most, .int .i64 ticks]] w fun e w' => e = .returned (.bool (decide (l = l'))) ∧ Below w.heap.size w w' := by
  have HN := hd hn
  have HN' := hd hn'
  have e_k : (k != k) = false := by simp
  have e_tn := sstr_eq tn
  have e_col := sstr_eq col
  have e_uid := sstr_eq uid
  have e_card := sstr_eq card
  have e_cc := cond_neq ck cv ck cv
  simp only [decide_true, Bool.and_self, Bool.not_true] at e_cc
  have e_tok : (tok != tok) = false := by simp
  have e_most : (most != most) = false := by simp
  have e_ticks : (ticks != ticks) = false := by simp
  have e_n : ((n : Int) != (n : Int)) = false := by simp
  clear hn hn'
  obtain ⟨X, hX⟩ : ∃ X, X = (w.alloc (.cells #[.int .i64 k, .string (bs tn), .string (bs col), .string (bs uid), .string (bs card), .int .i64 ck, .int .i64 cv, .slice A n c, .int .i64 tok, .int .i64 most, .int .i64 ticks] 26)).alloc (.cells #[.int .i64 k, .string (bs tn), .string (bs col), .string (bs uid), .string (bs card), .int .i64 ck, .int .i64 cv, .slice A' n c', .int .i64 tok, .int .i64 most, .int .i64 ticks] 26) := ⟨_, rfl⟩
  have q1 : Blk X w.heap.size 26 #[.int .i64 k, .string (bs tn), .string (bs col), .string (bs uid), .string (bs card), .int .i64 ck, .int .i64 cv, .slice A n c, .int .i64 tok, .int .i64 most, .int .i64 ticks] := by rw [hX]; exact (Blk.new _ _ _).alloc _
  have q2 : Blk X (w.heap.size + 1) 26 #[.int .i64 k, .string (bs tn), .string (bs col), .string (bs uid), .string (bs card), .int .i64 ck, .int .i64 cv, .slice A' n c', .int .i64 tok, .int .i64 most, .int .i64 ticks] := by rw [hX]; exact Blk.new_ _ _ (by simp) _ _
  have HBX := hd (show Below w.heap.size w X by rw [hX]; exact twoB _ _ _)
  have r0 := q1.at_ 0 rfl
  have r1 := q1.at_ 1 rfl
  have r2 := q1.at_ 2 rfl
  have r3 := q1.at_ 3 rfl
  have r4 := q1.at_ 4 rfl
  have r5 := q1.at_ 5 rfl
  have r6 := q1.at_ 6 rfl
  have r7 := q1.at_ 7 rfl
  have r8 := q1.at_ 8 rfl
  have r9 := q1.at_ 9 rfl
  have r10 := q1.at_ 10 rfl
  have t0 := q2.at_ 0 rfl
  have t1 := q2.at_ 1 rfl
  have t2 := q2.at_ 2 rfl
  have t3 := q2.at_ 3 rfl
  have t4 := q2.at_ 4 rfl
  have t5 := q2.at_ 5 rfl
  have t6 := q2.at_ 6 rfl
  have t7 := q2.at_ 7 rfl
  have t8 := q2.at_ 8 rfl
  have t9 := q2.at_ 9 rfl
  have t10 := q2.at_ 10 rfl
  have HX := hd hX
  clear q1 q2 hX
  have HRX := hd (show Rds X A n 5 (opsE l) by rw [HX.o]; exact (hr.alloc _).alloc _)
  have HRX' := hd (show Rds X A' n 5 (opsE l') by rw [HX.o]; exact (hr'.alloc _).alloc _)
  clear hr hr'
  go_enter Tryz.func21, Tryz.ntmps21
  simp only [List.append_eq, List.cons_append, List.nil_append]
  go_upto_region 1 with (fail)
  rw [← HX.o]
  go_wp2
  go_loopw [5] (fun i wr => ∃ k : Nat, i = .int .i64 k ∧ k ≤ n ∧ (∃ q, wr = X.drewN q) ∧ Hd (∀ j, j < k → l[j]? = l'[j]?)) (fun i _ => n - (intOf i).toNat)
  case atStart => exact ⟨0, rfl, Nat.zero_le _, ⟨0, rfl⟩, fun j hj => by omega⟩
  case round =>
    obtain ⟨k, rfl, hk, ⟨q, rfl⟩, hall⟩ := hrel
    have hki : (0 : Int) ≤ (k : Int) := by omega
    by_cases hlt : k < n
    · have hlti : (k : Int) < (n : Int) := by omega
      obtain ⟨g, o, rfl, hg, hc⟩ := HRX.o.at_ (by omega)
      obtain ⟨g', o', rfl, hg', hc'⟩ := HRX'.o.at_ (by omega)
      obtain ⟨x, hx, hxc⟩ := op_at l k (by rw [← HN.o]; exact hlt)
      obtain ⟨y, hy, hyc⟩ := op_at l' k (by rw [← HN'.o]; exact hlt)
      have hcx : ∀ j u, j < 5 → (opEnc x)[j]? = some u → X.cell? ⟨g, o + (k * 5 + j), none⟩ = some u := fun j u hj hv => hc _ _ ((hxc j hj).trans hv)
      have hcy : ∀ j u, j < 5 → (opEnc y)[j]? = some u → X.cell? ⟨g', o' + (k * 5 + j), none⟩ = some u := fun j u hj hv => hc' _ _ ((hyc j hj).trans hv)
      have heq := op_neq x y
      have HXv := hd hx
      have HYv := hd hy
      have HXY : Hd ((x != y) = true → l ≠ l') := hd (fun h e => by
        subst e
        have := HXv.o.symm.trans HYv.o
        injection this with this
        subst this
        simp at h)
      have HXY2 : Hd ((x != y) = false → ∀ j, j < k + 1 → l[j]? = l'[j]?) := hd (fun h j hj => by
        have hxy : x = y := by simpa using h
        by_cases hjk : j < k
        · exact hall.o j hjk
        · obtain rfl : j = k := by omega
          rw [HXv.o, HYv.o, hxy])
      obtain ⟨bq, hbq⟩ : ∃ bq, (x != y) = bq := ⟨_, rfl⟩
      rw [hbq] at HXY HXY2
      simp only [hbq] at heq
      obtain ⟨xd, xu, xc, xk, xv⟩ := x
      obtain ⟨yd, yu, yc, yk, yv⟩ := y
      have a0 := hcx 0 _ (by omega) rfl
      have a1 := hcx 1 _ (by omega) rfl
      have a2 := hcx 2 _ (by omega) rfl
      have a3 := hcx 3 _ (by omega) rfl
      have a4 := hcx 4 _ (by omega) rfl
      have b0 := hcy 0 _ (by omega) rfl
      have b1 := hcy 1 _ (by omega) rfl
      have b2 := hcy 2 _ (by omega) rfl
      have b3 := hcy 3 _ (by omega) rfl
      have b4 := hcy 4 _ (by omega) rfl
      rw [← Nat.add_assoc] at a0 a1 a2 a3 a4 b0 b1 b2 b3 b4
      rw [Nat.add_zero] at a0 b0
      simp only at heq
      clear hx hy hc hc' hxc hyc hcx hcy hbq r0 r1 r2 r3 r4 r5 r6 r8 r9 r10 t0 t1 t2 t3 t4 t5 t6 t8 t9 t10 e_k e_tn e_col e_uid e_card e_cc e_tok e_most e_ticks e_n
      go_wp2
      go_quiet (fail)
      cases bq with
      | true =>
        go_wp2
        go_ret
        refine ⟨ret_bool ?_, by repeat (first | exact HBX.o | apply bdrewN)⟩
        have := HXY.o (by first | rfl | trivial)
        simp [this]
      | false =>
        have HNX := hd (HXY2.o (by first | rfl | trivial))
        go_wp2
        go_roundw
        case rel => exact ⟨k + 1, by go_num, by omega, ⟨_, rfl⟩, HNX.o⟩
        case measure => simp [intOf]; omega
    · obtain rfl : k = n := by omega
      go_wp2
      go_ret
      refine ⟨ret_bool ?_, by repeat (first | exact HBX.o | apply bdrewN)⟩
      have : l = l' := by
        refine List.ext_getElem? fun j => ?_
        by_cases hj : j < k
        · exact hall.o j hj
        · rw [List.getElem?_eq_none (by rw [← HN.o]; omega), List.getElem?_eq_none (by rw [← HN'.o]; omega)]
      simp [this]
theorem ret_false {b : Bool} {e : Ending} (h : e = .returned (.bool false)) (hb : b = false) : e = .returned (.bool b) := by rw [h, hb]
theorem same_calls (p q : Rq) (A A' : Option Addr) (c c' : Nat) (w : World) (hr : Rds w A p.ops.length 5 (opsE p.ops)) (hr' : Rds w A' q.ops.length 5 (opsE q.ops)) (hb : p.ops.length ≤ 1000000) (hb' : q.ops.length ≤ 1000000) :
    Calls Tryz.prog 21 #[reqV p A c, reqV q A' c'] w fun e w' => e = .returned (.bool (decide (p = q))) ∧ Below w.heap.size w w' := by
  obtain ⟨k, tn, col, uid, card, ck, cv, ops, tok, most, ticks⟩ := p
  obtain ⟨k', tn', col', uid', card', ck', cv', ops', tok', most', ticks'⟩ := q
  unfold reqV reqE
  simp only at *
  by_cases h0 : k = k'
  case neg => exact (same_no0 k k' tn tn' col col' uid uid' card card' ck cv ck' cv' tok tok' most most' ticks ticks' ops.length ops'.length A A' c c' w hb hb' h0).mono fun e w' ⟨he, hw⟩ => ⟨ret_false he (decide_eq_false (fun h => h0 (by injection h with z0 z1 z2 z3 z4 z5 z6 z7 z8 z9 z10 <;> first | assumption | exact ⟨z5, z6⟩ | (rw [z7])))), hw⟩
  subst h0
  by_cases h1 : tn = tn'
  case neg => exact (same_no1 k tn tn' col col' uid uid' card card' ck cv ck' cv' tok tok' most most' ticks ticks' ops.length ops'.length A A' c c' w hb hb' h1).mono fun e w' ⟨he, hw⟩ => ⟨ret_false he (decide_eq_false (fun h => h1 (by injection h with z0 z1 z2 z3 z4 z5 z6 z7 z8 z9 z10 <;> first | assumption | exact ⟨z5, z6⟩ | (rw [z7])))), hw⟩
  subst h1
  by_cases h2 : col = col'
  case neg => exact (same_no2 k tn col col' uid uid' card card' ck cv ck' cv' tok tok' most most' ticks ticks' ops.length ops'.length A A' c c' w hb hb' h2).mono fun e w' ⟨he, hw⟩ => ⟨ret_false he (decide_eq_false (fun h => h2 (by injection h with z0 z1 z2 z3 z4 z5 z6 z7 z8 z9 z10 <;> first | assumption | exact ⟨z5, z6⟩ | (rw [z7])))), hw⟩
  subst h2
  by_cases h3 : uid = uid'
  case neg => exact (same_no3 k tn col uid uid' card card' ck cv ck' cv' tok tok' most most' ticks ticks' ops.length ops'.length A A' c c' w hb hb' h3).mono fun e w' ⟨he, hw⟩ => ⟨ret_false he (decide_eq_false (fun h => h3 (by injection h with z0 z1 z2 z3 z4 z5 z6 z7 z8 z9 z10 <;> first | assumption | exact ⟨z5, z6⟩ | (rw [z7])))), hw⟩
  subst h3
  by_cases h4 : card = card'
  case neg => exact (same_no4 k tn col uid card card' ck cv ck' cv' tok tok' most most' ticks ticks' ops.length ops'.length A A' c c' w hb hb' h4).mono fun e w' ⟨he, hw⟩ => ⟨ret_false he (decide_eq_false (fun h => h4 (by injection h with z0 z1 z2 z3 z4 z5 z6 z7 z8 z9 z10 <;> first | assumption | exact ⟨z5, z6⟩ | (rw [z7])))), hw⟩
  subst h4
  by_cases h5 : ck = ck' ∧ cv = cv'
  case neg => exact (same_no5 k tn col uid card ck cv ck' cv' tok tok' most most' ticks ticks' ops.length ops'.length A A' c c' w hb hb' h5).mono fun e w' ⟨he, hw⟩ => ⟨ret_false he (decide_eq_false (fun h => h5 (by injection h with z0 z1 z2 z3 z4 z5 z6 z7 z8 z9 z10 <;> first | assumption | exact ⟨z5, z6⟩ | (rw [z7])))), hw⟩
  obtain ⟨rfl, rfl⟩ := h5
  by_cases h6 : tok = tok'
  case neg => exact (same_no6 k tn col uid card ck cv tok tok' most most' ticks ticks' ops.length ops'.length A A' c c' w hb hb' h6).mono fun e w' ⟨he, hw⟩ => ⟨ret_false he (decide_eq_false (fun h => h6 (by injection h with z0 z1 z2 z3 z4 z5 z6 z7 z8 z9 z10 <;> first | assumption | exact ⟨z5, z6⟩ | (rw [z7])))), hw⟩
  subst h6
  by_cases h7 : most = most'
  case neg => exact (same_no7 k tn col uid card ck cv tok most most' ticks ticks' ops.length ops'.length A A' c c' w hb hb' h7).mono fun e w' ⟨he, hw⟩ => ⟨ret_false he (decide_eq_false (fun h => h7 (by injection h with z0 z1 z2 z3 z4 z5 z6 z7 z8 z9 z10 <;> first | assumption | exact ⟨z5, z6⟩ | (rw [z7])))), hw⟩
  subst h7
  by_cases h8 : ticks = ticks'
  case neg => exact (same_no8 k tn col uid card ck cv tok most ticks ticks' ops.length ops'.length A A' c c' w hb hb' h8).mono fun e w' ⟨he, hw⟩ => ⟨ret_false he (decide_eq_false (fun h => h8 (by injection h with z0 z1 z2 z3 z4 z5 z6 z7 z8 z9 z10 <;> first | assumption | exact ⟨z5, z6⟩ | (rw [z7])))), hw⟩
  subst h8
  by_cases h9 : ops.length = ops'.length
  case neg => exact (same_no9 k tn col uid card ck cv tok most ticks ops.length ops'.length A A' c c' w hb hb' h9).mono fun e w' ⟨he, hw⟩ => ⟨ret_false he (decide_eq_false (fun h => h9 (by injection h with z0 z1 z2 z3 z4 z5 z6 z7 z8 z9 z10 <;> first | assumption | exact ⟨z5, z6⟩ | (rw [z7])))), hw⟩
  rw [← h9] at hr' ⊢
  refine (same_ops k tn col uid card ck cv ops ops' tok most ticks ops.length A A' c c' w rfl h9 hr hr' hb).mono fun e w' ⟨he, hw⟩ => ⟨?_, hw⟩
  rw [he]
  refine ret_bool ?_
  by_cases he : ops = ops'
  · simp [he]
  · simp [he]

end Go.Proofs.YtogjokofmfpmgaaGreatDoor
namespace Go.Proofs.YtogjokofmfpmgaaGreatDoor
open Go.RowKit

theorem runs_seq {s : Ss} {l : List Tn} {a : Ss} (h : Runs s l a) : s.seq ≤ a.seq ∧ a.seq ≤ s.seq + l.length := by
  induction h with
  | nothing => simp
  | over => simp; omega
  | step h1 h2 _ ih =>
    next s l a _ =>
    obtain ⟨_, _, h3, h4⟩ := next_sizes s
    rw [List.length_cons]
    omega
structure TwoP (v w : World) (g p g2 p2 : Nat) (s t : Ss) : Prop where
  a : SesA v w g p s
  r : SesA v w g2 p2 t
  d : g ≠ g2 ∧ g ≠ p2 ∧ p ≠ g2 ∧ p ≠ p2
section
variable {v w w' : World} {g p g2 p2 : Nat} {s s' t t' : Ss}
theorem TwoP.go1 (h : TwoP v w g p g2 p2 s t) (hc : Chg (Two g p) w w') (hs : SesA v w' g p s') : TwoP v w' g p g2 p2 s' t :=
  ⟨hs, ⟨⟨h.r.r.b.chg hc (fun k => by rcases k with k | k; exact h.d.1 k.symm; exact h.d.2.2.1 k.symm), h.r.r.p.chg hc (fun k => by rcases k with k | k; exact h.d.2.1 k.symm; exact h.d.2.2.2 k.symm)⟩, h.r.g, h.r.p, hs.b⟩, h.d⟩
theorem TwoP.go2 (h : TwoP v w g p g2 p2 s t) (hc : Chg (Two g2 p2) w w') (hs : SesA v w' g2 p2 t') : TwoP v w' g p g2 p2 s t' :=
  ⟨⟨⟨h.a.r.b.chg hc (fun k => by rcases k with k | k; exact h.d.1 k; exact h.d.2.1 k), h.a.r.p.chg hc (fun k => by rcases k with k | k; exact h.d.2.2.1 k; exact h.d.2.2.2 k)⟩, h.a.g, h.a.p, hs.b⟩, hs, h.d⟩
theorem TwoP.below (h : TwoP v w g p g2 p2 s t) (hb : Below w.heap.size w w') : TwoP v w' g p g2 p2 s t := ⟨h.a.below hb, h.r.below hb, h.d⟩
theorem TwoP.row {S : Nat → Prop} {A : Option Addr} {n c : Nat} {xs : List Value} (h : TwoP v w g p g2 p2 s t) (hr : Row w S 61 15 A n c xs) (hS : ∀ k, S k → v.heap.size ≤ k) (hc : Chg (Of A) w w') : TwoP v w' g p g2 p2 s t := ⟨h.a.row hr hS hc, h.r.row hr hS hc, h.d⟩
end
theorem snew_p {v w : World} {g p : Nat} {s : Ss} (r : Int) (h : SesA v w g p s) : Calls Tryz.prog 28 #[.int .i64 r] w fun e w' => ∃ g2 p2, e = .returned (.pointer (some ⟨g2, 0, none⟩)) ∧ TwoP v w' g p g2 p2 s (newS r) :=
  (snew_calls w r).mono fun e w' ⟨g2, he, hs, hg, hb⟩ => ⟨g2, w.heap.size, he, ⟨h.below hb, ⟨hs, Nat.le_trans h.b.size (Nat.le_of_lt hg), h.b.size, (h.below hb).b⟩, by have := h.r.b.lt; have := h.r.p.lt; omega⟩⟩
theorem may_20000 {s : Ss} {x : List UInt8} (hr : s.room = 20000) (hc : s.closed = false) (hb : x.length + s.buf.length ≤ 20000) : mayFeed s x = true := by
  unfold mayFeed
  rw [hr, hc]
  simp
  omega
/-- Turns in a slice. -/
structure TrL (w : World) (B : Nat → Prop) (L : List TnA) (A : Option Addr) (c : Nat) : Prop where
  row : Row w B 61 15 A L.length c (tnaE L)
  ops : TopsR w L
theorem TrL.below {w w' : World} {B : Nat → Prop} {L : List TnA} {A : Option Addr} {c : Nat} (h : TrL w B L A c) (hb : Below w.heap.size w w') : TrL w' B L A c := ⟨h.row.below hb, h.ops.below hb⟩
theorem TrL.two {w w' : World} {B : Nat → Prop} {L : List TnA} {A : Option Addr} {c g p : Nat} {s : Ss} (h : TrL w B L A c) (hs : SesR w g p s) (hc : Chg (Two g p) w w') : TrL w' B L A c :=
  ⟨chg_row h.row hc (fun a ha k => by rcases k with k | k; exact h.row.ne_blk hs.b (by decide) a ha k; exact h.row.ne_blk hs.p (by decide) a ha k), h.ops.two hs hc⟩
def Lt (B : Nat) : Nat → Prop := fun k => k < B
theorem chg_lt {w : World} {S : Nat → Prop} {e : TypeId} {size n c : Nat} {A : Option Addr} {xs : List Value} (h : Row w S e size A n c xs) : Row w (Lt w.heap.size) e size A n c xs := ⟨h.own, fun a ha => h.lt ha⟩
/-- Along the pieces. -/
structure PcsI (v : World) (g p g2 p2 B : Nat) (l : List (List UInt8)) (sx : Ss) (Lx : List TnA) (Ax : Option Addr) (cx k : Nat) (Y : List TnA) (A : Option Addr) (c : Nat) (o : Ss) (w : World) : Prop where
  run : Runs (moreS (newS 20000) (l.take k).flatten) (Y.map TnA.t) o
  len : (l.take k).flatten.length ≤ 400 * k
  y : TrL w (From B) Y A c
  x : TrL w (Lt B) Lx Ax cx
  two : TwoP v w g p g2 p2 sx o
  b : v.heap.size ≤ B
  bw : B ≤ w.heap.size
/-- Behind a piece. -/
structure PcsN (v : World) (g p g2 p2 B : Nat) (l : List (List UInt8)) (sx : Ss) (Lx : List TnA) (Ax : Option Addr) (cx k : Nat) (yy : Value) (w : World) : Prop where
  o : ∃ (Y : List TnA) (A : Option Addr) (c : Nat) (o : Ss), yy = .slice A Y.length c ∧ PcsI v g p g2 p2 B l sx Lx Ax cx k Y A c o w
/-- At the end. -/
structure PcsE (v : World) (g p g2 p2 B : Nat) (sx : Ss) (Lx : List TnA) (Ax : Option Addr) (cx : Nat) (Y : List TnA) (A : Option Addr) (c : Nat) (w : World) : Prop where
  eq : Y.map TnA.t = Lx.map TnA.t
  last : (Lx.map TnA.t).getLast? = some (tn0 4)
  y : TrL w (From B) Y A c
  x : TrL w (Lt B) Lx Ax cx
  two : TwoP v w g p g2 p2 sx sx
theorem PcsE.below {v : World} {g p g2 p2 B : Nat} {sx : Ss} {Lx : List TnA} {Ax : Option Addr} {cx : Nat} {Y : List TnA} {A : Option Addr} {c : Nat} {w w' : World} (h : PcsE v g p g2 p2 B sx Lx Ax cx Y A c w) (hb : Below w.heap.size w w') : PcsE v g p g2 p2 B sx Lx Ax cx Y A c w' :=
  ⟨h.eq, h.last, h.y.below hb, h.x.below hb, h.two.below hb⟩
/-- The pieces' turns, whole. -/
structure PcsF (v : World) (g p g2 p2 B : Nat) (sx : Ss) (Lx : List TnA) (Ax : Option Addr) (cx : Nat) (yy : Value) (w : World) : Prop where
  o : ∃ (Y : List TnA) (A : Option Addr) (c : Nat), yy = .slice A Y.length c ∧ PcsE v g p g2 p2 B sx Lx Ax cx Y A c w
theorem next_ops2 (s : Ss) : (nextS s).1.q.ops.length ≤ 1000000 := by
  rcases look_or s with h | h | ⟨h, _⟩ | ⟨h, _⟩
  · rw [next_0 h]; exact Nat.zero_le _
  · rw [next_4 h]; exact Nat.zero_le _
  · rw [next_3 h]; exact Nat.zero_le _
  · by_cases he : errS s = 0
    · rw [next_1 h he]
      exact Nat.le_trans (dec_ok (err_ok he).1).2.2.2.ops.1 (by decide)
    · rw [next_2 h he]; exact Nat.zero_le _
theorem runs_ops {s : Ss} {l : List Tn} {a : Ss} (h : Runs s l a) : ∀ t ∈ l, t.q.ops.length ≤ 1000000 := by
  induction h with
  | nothing => intro t ht; cases ht
  | over => intro t ht; rw [List.mem_singleton.1 ht]; exact Nat.zero_le _
  | step h1 h2 _ ih =>
    intro t ht
    rcases List.mem_cons.1 ht with rfl | ht
    · exact next_ops2 _
    · exact ih t ht
/-- What is last of the turns. -/
theorem last_what {s : Ss} {Y : List TnA} {o : Ss} (h : Runs s (Y.map TnA.t) o) : (lookW o = 0 ∨ lookW o = 4) ∧ ∀ (hn : 0 < Y.length), (Y[Y.length - 1]'(by omega)).t.what = 4 ↔ lookW o = 4 := by
  refine ⟨runs_or h, fun hn => ?_⟩
  have hl : (Y.map TnA.t).getLast? = some (Y[Y.length - 1]'(by omega)).t := by
    rw [List.getLast?_eq_getElem?]
    simp [List.getElem?_eq_getElem (show Y.length - 1 < Y.length by omega)]
  rcases runs_end h with ⟨h1, h2⟩ | ⟨h1, h2⟩
  · have := h2 _ hl
    constructor
    · exact fun k => absurd k this
    · intro k; omega
  · rw [hl] at h2
    injection h2 with h2
    rw [h2, h1]
    exact ⟨fun _ => rfl, fun _ => rfl⟩
theorem last_nil {s : Ss} {Y : List TnA} {o : Ss} (h : Runs s (Y.map TnA.t) o) (h0 : Y.length = 0) : lookW o = 0 := by
  rcases runs_end h with ⟨h1, _⟩ | ⟨_, h2⟩
  · exact h1
  · rw [List.eq_nil_of_length_eq_zero h0] at h2
    cases h2
/-- One appended behind. -/
theorem app_y {v : World} {g p g2 p2 B : Nat} {sx o : Ss} {Lx Y L2 : List TnA} {Ax A A9 : Option Addr} {cx c m c9 : Nat} {w w' : World} (hm : m = Y.length + L2.length) (hy : TrL w (From B) Y A c) (hx : TrL w (Lt B) Lx Ax cx) (h2 : TopsR w L2) (ht : TwoP v w g p g2 p2 sx o) (hv : v.heap.size ≤ B) (hB : B ≤ w.heap.size)
    (hown : Row w' (Plus (Of A) w.heap.size) 61 15 A9 m c9 (tnaE Y ++ tnaE L2)) (hc : Chg (Of A) w w') : TrL w' (From B) (Y ++ L2) A9 c9 ∧ TrL w' (Lt B) Lx Ax cx ∧ TwoP v w' g p g2 p2 sx o := by
  have hl : (Y ++ L2).length = m := by rw [List.length_append, hm]
  refine ⟨⟨?_, ?_⟩, ⟨?_, hx.ops.row hy.row hc⟩, ht.row hy.row (fun k hk => Nat.le_trans hv hk) hc⟩
  · rw [hl, tnaE_app]
    exact hown.mono (fun k hk => hk.elim (fun hk => hy.row.of_sub k hk) (fun hk => Nat.le_trans hB hk))
  · have h1 := hy.ops.row hy.row hc
    have h3 := h2.row hy.row hc
    exact ⟨fun x hx => (List.mem_append.1 hx).elim (h1.o x) (h3.o x)⟩
  · exact chg_row hx.row hc (fun a ha k => by
      have e1 : a.block < B := hx.row.fp a ha
      have e2 : B ≤ a.block := hy.row.of_sub _ k
      omega)
end Go.Proofs.YtogjokofmfpmgaaGreatDoor
