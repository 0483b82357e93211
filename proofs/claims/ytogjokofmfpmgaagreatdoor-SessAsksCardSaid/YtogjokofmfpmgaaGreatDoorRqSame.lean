/-
  henref10.SameReq: two requests alike.
-/
import Derived.Test.YtogjokofmfpmgaaGreatDoorGRA
import Derived.Test.YtogjokofmfpmgaaGreatDoorGAL
import Derived.Test.YtogjokofmfpmgaaGreatDoorGRB
import Derived.Deep.QuietTactic
set_option linter.unusedVariables false
set_option linter.unusedSimpArgs false
namespace Go.Proofs.YtogjokofmfpmgaaGreatDoor
open Go.RowKit

theorem op_neq (x y : OpV) (W : World) : (binOp .neq 43 (.agg #[.bool x.del, .string (bs x.uid), .string (bs x.card), .int .i64 x.ck, .int .i64 x.cv]) (.agg #[.bool y.del, .string (bs y.uid), .string (bs y.card), .int .i64 y.ck, .int .i64 y.cv])).run Tryz.prog W = .ok (.bool (x != y)) W := by
  have u0 := Tryz.underlying3
  have a0 := Tryz.isAgg3
  have z0 := Tryz.sizeOf3
  have u1 := Tryz.underlying2
  have a1 := Tryz.isAgg2
  have z1 := Tryz.sizeOf2
  have u2 := Tryz.underlying4
  have a2 := Tryz.isAgg4
  have z2 := Tryz.sizeOf4
  have u3 := Tryz.underlying9
  have a3 := Tryz.isAgg9
  have z3 := Tryz.sizeOf9
  have u4 := Tryz.underlying23
  have a4 := Tryz.isAgg23
  have z4 := Tryz.sizeOf23
  have hS : Tryz.prog.underlying 43 = some (.struct (Tryz.prog.fieldsOf 43)) := by kernel_rfl
  have hp : Tryz.prog.stoodInHeld 43 = false := by kernel_rfl
  rw [run_neq_struct, show (10000 : Nat) = 9999 + 1 from rfl, run_equalIn_agg W 9999 43 _ _ hS hp]
  simp only [Program.fieldsOf, Tryz.underlying43]
  go_simp
  obtain ⟨a, b, c, d, f⟩ := x
  obtain ⟨a', b', c', d', f'⟩ := y
  have e : ∀ l : List UInt8, (bs l).toList = l := fun l => by rw [Lib.toList_data]; rfl
  simp only [e]
  by_cases h1 : a = a'
  · by_cases h2 : b = b'
    · by_cases h3 : c = c'
      · by_cases h4 : d = d'
        · by_cases h5 : f = f'
          · simp [h1, h2, h3, h4, h5]
          · simp [h1, h2, h3, h4, h5]
        · simp [h1, h2, h3, h4]
      · simp [h1, h2, h3]
    · simp [h1, h2]
  · simp [h1]
theorem cond_neq (a b a' b' : Int) (W : World) : (binOp .neq 23 (.agg #[.int .i64 a, .int .i64 b]) (.agg #[.int .i64 a', .int .i64 b'])).run Tryz.prog W = .ok (.bool (!(decide (a = a') && decide (b = b')))) W := by
  have u0 := Tryz.underlying3
  have a0 := Tryz.isAgg3
  have z0 := Tryz.sizeOf3
  have u1 := Tryz.underlying2
  have a1 := Tryz.isAgg2
  have z1 := Tryz.sizeOf2
  have hS : Tryz.prog.underlying 23 = some (.struct (Tryz.prog.fieldsOf 23)) := by kernel_rfl
  have hp : Tryz.prog.stoodInHeld 23 = false := by kernel_rfl
  rw [run_neq_struct, show (10000 : Nat) = 9999 + 1 from rfl, run_equalIn_agg W 9999 23 _ _ hS hp]
  simp only [Program.fieldsOf, Tryz.underlying23]
  go_simp
  by_cases h1 : a = a' <;> by_cases h2 : b = b' <;> simp [h1, h2]
theorem op_at (l : List OpV) (k : Nat) (h : k < l.length) : ∃ x, l[k]? = some x ∧ ∀ j, j < 5 → (opsE l)[k * 5 + j]? = (opEnc x)[j]? := ⟨l[k], by simp [h], fun j hj => opsE_at l k h j hj⟩
theorem sstr_ne {a b : List UInt8} (h : a ≠ b) : ((bs a).toList == (bs b).toList) = false := by rw [bs_toL, bs_toL]; simpa using h
theorem sstr_eq (a : List UInt8) : ((bs a).toList == (bs a).toList) = true := by simp

set_option maxRecDepth 100000 in
set_option maxHeartbeats 4000000 in
theorem same_no0 (k : Int) (k' : Int) (tn : List UInt8) (tn' : List UInt8) (col : List UInt8) (col' : List UInt8) (uid : List UInt8) (uid' : List UInt8) (card : List UInt8) (card' : List UInt8) (ck cv : Int) (ck' cv' : Int) (tok : Int) (tok' : Int) (most : Int) (most' : Int) (ticks : Int) (ticks' : Int) (n : Nat) (n' : Nat) (A A' : Option Addr) (c c' : Nat) (w : World) (hb : n ≤ 1000000) (hb' : n' ≤ 1000000) (hne : k ≠ k') :
    Calls Tryz.prog 21 #[.agg #[.int .i64 k, .string (bs tn), .string (bs col), .string (bs uid), .string (bs card), .int .i64 ck, .int .i64 cv, .slice A n c, .int .i64 tok, .int .i64 most, .int .i64 ticks], .agg #[.int .i64 k', .string (bs tn'), .string (bs col'), .string (bs uid'), .string (bs card'), .int .i64 ck', .int .i64 cv', .slice A' n' c', .int .i64 tok', .int .i64 most', .int .i64 ticks']] w fun e w' => e = .returned (.bool false) ∧ Below w.heap.size w w' := by
  have e_k : (k != k') = true := by simpa using hne
  clear hne
  obtain ⟨X, hX⟩ : ∃ X, X = (w.alloc (.cells #[.int .i64 k, .string (bs tn), .string (bs col), .string (bs uid), .string (bs card), .int .i64 ck, .int .i64 cv, .slice A n c, .int .i64 tok, .int .i64 most, .int .i64 ticks] 26)).alloc (.cells #[.int .i64 k', .string (bs tn'), .string (bs col'), .string (bs uid'), .string (bs card'), .int .i64 ck', .int .i64 cv', .slice A' n' c', .int .i64 tok', .int .i64 most', .int .i64 ticks'] 26) := ⟨_, rfl⟩
  have q1 : Blk X w.heap.size 26 #[.int .i64 k, .string (bs tn), .string (bs col), .string (bs uid), .string (bs card), .int .i64 ck, .int .i64 cv, .slice A n c, .int .i64 tok, .int .i64 most, .int .i64 ticks] := by rw [hX]; exact (Blk.new _ _ _).alloc _
  have q2 : Blk X (w.heap.size + 1) 26 #[.int .i64 k', .string (bs tn'), .string (bs col'), .string (bs uid'), .string (bs card'), .int .i64 ck', .int .i64 cv', .slice A' n' c', .int .i64 tok', .int .i64 most', .int .i64 ticks'] := by rw [hX]; exact Blk.new_ _ _ (by simp) _ _
  have HBX := hd (show Below w.heap.size w X by rw [hX]; exact twoB _ _ _)
  obtain ⟨r0, r1, r2, r3, r4, r5, r6, r7, r8, r9, r10⟩ := c11 q1
  obtain ⟨t0, t1, t2, t3, t4, t5, t6, t7, t8, t9, t10⟩ := c11 q2
  have HX := hd hX
  clear q1 q2 hX
  go_enter Tryz.func21, Tryz.ntmps21
  simp only [List.append_eq, List.cons_append, List.nil_append]
  go_upto_region 1 with (fail)
  rw [← HX.o]
  go_wp2
  go_ret
  exact ⟨rfl, HBX.o⟩
set_option maxRecDepth 100000 in
set_option maxHeartbeats 4000000 in
theorem same_no1 (k : Int) (tn : List UInt8) (tn' : List UInt8) (col : List UInt8) (col' : List UInt8) (uid : List UInt8) (uid' : List UInt8) (card : List UInt8) (card' : List UInt8) (ck cv : Int) (ck' cv' : Int) (tok : Int) (tok' : Int) (most : Int) (most' : Int) (ticks : Int) (ticks' : Int) (n : Nat) (n' : Nat) (A A' : Option Addr) (c c' : Nat) (w : World) (hb : n ≤ 1000000) (hb' : n' ≤ 1000000) (hne : tn ≠ tn') :
    Calls Tryz.prog 21 #[.agg #[.int .i64 k, .string (bs tn), .string (bs col), .string (bs uid), .string (bs card), .int .i64 ck, .int .i64 cv, .slice A n c, .int .i64 tok, .int .i64 most, .int .i64 ticks], .agg #[.int .i64 k, .string (bs tn'), .string (bs col'), .string (bs uid'), .string (bs card'), .int .i64 ck', .int .i64 cv', .slice A' n' c', .int .i64 tok', .int .i64 most', .int .i64 ticks']] w fun e w' => e = .returned (.bool false) ∧ Below w.heap.size w w' := by
  have e_k : (k != k) = false := by simp
  have e_tn := sstr_ne hne
  clear hne
  obtain ⟨X, hX⟩ : ∃ X, X = (w.alloc (.cells #[.int .i64 k, .string (bs tn), .string (bs col), .string (bs uid), .string (bs card), .int .i64 ck, .int .i64 cv, .slice A n c, .int .i64 tok, .int .i64 most, .int .i64 ticks] 26)).alloc (.cells #[.int .i64 k, .string (bs tn'), .string (bs col'), .string (bs uid'), .string (bs card'), .int .i64 ck', .int .i64 cv', .slice A' n' c', .int .i64 tok', .int .i64 most', .int .i64 ticks'] 26) := ⟨_, rfl⟩
  have q1 : Blk X w.heap.size 26 #[.int .i64 k, .string (bs tn), .string (bs col), .string (bs uid), .string (bs card), .int .i64 ck, .int .i64 cv, .slice A n c, .int .i64 tok, .int .i64 most, .int .i64 ticks] := by rw [hX]; exact (Blk.new _ _ _).alloc _
  have q2 : Blk X (w.heap.size + 1) 26 #[.int .i64 k, .string (bs tn'), .string (bs col'), .string (bs uid'), .string (bs card'), .int .i64 ck', .int .i64 cv', .slice A' n' c', .int .i64 tok', .int .i64 most', .int .i64 ticks'] := by rw [hX]; exact Blk.new_ _ _ (by simp) _ _
  have HBX := hd (show Below w.heap.size w X by rw [hX]; exact twoB _ _ _)
  obtain ⟨r0, r1, r2, r3, r4, r5, r6, r7, r8, r9, r10⟩ := c11 q1
  obtain ⟨t0, t1, t2, t3, t4, t5, t6, t7, t8, t9, t10⟩ := c11 q2
  have HX := hd hX
  clear q1 q2 hX
  go_enter Tryz.func21, Tryz.ntmps21
  simp only [List.append_eq, List.cons_append, List.nil_append]
  go_upto_region 1 with (fail)
  rw [← HX.o]
  go_wp2
  go_ret
  exact ⟨rfl, HBX.o⟩
set_option maxRecDepth 100000 in
set_option maxHeartbeats 4000000 in
theorem same_no2 (k : Int) (tn : List UInt8) (col : List UInt8) (col' : List UInt8) (uid : List UInt8) (uid' : List UInt8) (card : List UInt8) (card' : List UInt8) (ck cv : Int) (ck' cv' : Int) (tok : Int) (tok' : Int) (most : Int) (most' : Int) (ticks : Int) (ticks' : Int) (n : Nat) (n' : Nat) (A A' : Option Addr) (c c' : Nat) (w : World) (hb : n ≤ 1000000) (hb' : n' ≤ 1000000) (hne : col ≠ col') :
    Calls Tryz.prog 21 #[.agg #[.int .i64 k, .string (bs tn), .string (bs col), .string (bs uid), .string (bs card), .int .i64 ck, .int .i64 cv, .slice A n c, .int .i64 tok, .int .i64 most, .int .i64 ticks], .agg #[.int .i64 k, .string (bs tn), .string (bs col'), .string (bs uid'), .string (bs card'), .int .i64 ck', .int .i64 cv', .slice A' n' c', .int .i64 tok', .int .i64 most', .int .i64 ticks']] w fun e w' => e = .returned (.bool false) ∧ Below w.heap.size w w' := by
  have e_k : (k != k) = false := by simp
  have e_tn := sstr_eq tn
  have e_col := sstr_ne hne
  clear hne
  obtain ⟨X, hX⟩ : ∃ X, X = (w.alloc (.cells #[.int .i64 k, .string (bs tn), .string (bs col), .string (bs uid), .string (bs card), .int .i64 ck, .int .i64 cv, .slice A n c, .int .i64 tok, .int .i64 most, .int .i64 ticks] 26)).alloc (.cells #[.int .i64 k, .string (bs tn), .string (bs col'), .string (bs uid'), .string (bs card'), .int .i64 ck', .int .i64 cv', .slice A' n' c', .int .i64 tok', .int .i64 most', .int .i64 ticks'] 26) := ⟨_, rfl⟩
  have q1 : Blk X w.heap.size 26 #[.int .i64 k, .string (bs tn), .string (bs col), .string (bs uid), .string (bs card), .int .i64 ck, .int .i64 cv, .slice A n c, .int .i64 tok, .int .i64 most, .int .i64 ticks] := by rw [hX]; exact (Blk.new _ _ _).alloc _
  have q2 : Blk X (w.heap.size + 1) 26 #[.int .i64 k, .string (bs tn), .string (bs col'), .string (bs uid'), .string (bs card'), .int .i64 ck', .int .i64 cv', .slice A' n' c', .int .i64 tok', .int .i64 most', .int .i64 ticks'] := by rw [hX]; exact Blk.new_ _ _ (by simp) _ _
  have HBX := hd (show Below w.heap.size w X by rw [hX]; exact twoB _ _ _)
  obtain ⟨r0, r1, r2, r3, r4, r5, r6, r7, r8, r9, r10⟩ := c11 q1
  obtain ⟨t0, t1, t2, t3, t4, t5, t6, t7, t8, t9, t10⟩ := c11 q2
  have HX := hd hX
  clear q1 q2 hX
  go_enter Tryz.func21, Tryz.ntmps21
  simp only [List.append_eq, List.cons_append, List.nil_append]
  go_upto_region 1 with (fail)
  rw [← HX.o]
  go_wp2
  go_ret
  exact ⟨rfl, HBX.o⟩
set_option maxRecDepth 100000 in
set_option maxHeartbeats 4000000 in
theorem same_no3 (k : Int) (tn : List UInt8) (col : List UInt8) (uid : List UInt8) (uid' : List UInt8) (card : List UInt8) (card' : List UInt8) (ck cv : Int) (ck' cv' : Int) (tok : Int) (tok' : Int) (most : Int) (most' : Int) (ticks : Int) (ticks' : Int) (n : Nat) (n' : Nat) (A A' : Option Addr) (c c' : Nat) (w : World) (hb : n ≤ 1000000) (hb' : n' ≤ 1000000) (hne : uid ≠ uid') :
    Calls Tryz.prog 21 #[.agg #[.int .i64 k, .string (bs tn), .string (bs col), .string (bs uid), .string (bs card), .int .i64 ck, .int .i64 cv, .slice A n c, .int .i64 tok, .int .i64 most, .int .i64 ticks], .agg #[.int .i64 k, .string (bs tn), .string (bs col), .string (bs uid'), .string (bs card'), .int .i64 ck', .int .i64 cv', .slice A' n' c', .int .i64 tok', .int .i64 most', .int .i64 ticks']] w fun e w' => e = .returned (.bool false) ∧ Below w.heap.size w w' := by
  have e_k : (k != k) = false := by simp
  have e_tn := sstr_eq tn
  have e_col := sstr_eq col
  have e_uid := sstr_ne hne
  clear hne
  obtain ⟨X, hX⟩ : ∃ X, X = (w.alloc (.cells #[.int .i64 k, .string (bs tn), .string (bs col), .string (bs uid), .string (bs card), .int .i64 ck, .int .i64 cv, .slice A n c, .int .i64 tok, .int .i64 most, .int .i64 ticks] 26)).alloc (.cells #[.int .i64 k, .string (bs tn), .string (bs col), .string (bs uid'), .string (bs card'), .int .i64 ck', .int .i64 cv', .slice A' n' c', .int .i64 tok', .int .i64 most', .int .i64 ticks'] 26) := ⟨_, rfl⟩
  have q1 : Blk X w.heap.size 26 #[.int .i64 k, .string (bs tn), .string (bs col), .string (bs uid), .string (bs card), .int .i64 ck, .int .i64 cv, .slice A n c, .int .i64 tok, .int .i64 most, .int .i64 ticks] := by rw [hX]; exact (Blk.new _ _ _).alloc _
  have q2 : Blk X (w.heap.size + 1) 26 #[.int .i64 k, .string (bs tn), .string (bs col), .string (bs uid'), .string (bs card'), .int .i64 ck', .int .i64 cv', .slice A' n' c', .int .i64 tok', .int .i64 most', .int .i64 ticks'] := by rw [hX]; exact Blk.new_ _ _ (by simp) _ _
  have HBX := hd (show Below w.heap.size w X by rw [hX]; exact twoB _ _ _)
  obtain ⟨r0, r1, r2, r3, r4, r5, r6, r7, r8, r9, r10⟩ := c11 q1
  obtain ⟨t0, t1, t2, t3, t4, t5, t6, t7, t8, t9, t10⟩ := c11 q2
  have HX := hd hX
  clear q1 q2 hX
  go_enter Tryz.func21, Tryz.ntmps21
  simp only [List.append_eq, List.cons_append, List.nil_append]
  go_upto_region 1 with (fail)
  rw [← HX.o]
  go_wp2
  go_ret
  exact ⟨rfl, HBX.o⟩
set_option maxRecDepth 100000 in
set_option maxHeartbeats 4000000 in
theorem same_no4 (k : Int) (tn : List UInt8) (col : List UInt8) (uid : List UInt8) (card : List UInt8) (card' : List UInt8) (ck cv : Int) (ck' cv' : Int) (tok : Int) (tok' : Int) (most : Int) (most' : Int) (ticks : Int) (ticks' : Int) (n : Nat) (n' : Nat) (A A' : Option Addr) (c c' : Nat) (w : World) (hb : n ≤ 1000000) (hb' : n' ≤ 1000000) (hne : card ≠ card') :
    Calls Tryz.prog 21 #[.agg #[.int .i64 k, .string (bs tn), .string (bs col), .string (bs uid), .string (bs card), .int .i64 ck, .int .i64 cv, .slice A n c, .int .i64 tok, .int .i64 most, .int .i64 ticks], .agg #[.int .i64 k, .string (bs tn), .string (bs col), .string (bs uid), .string (bs card'), .int .i64 ck', .int .i64 cv', .slice A' n' c', .int .i64 tok', .int .i64 most', .int .i64 ticks']] w fun e w' => e = .returned (.bool false) ∧ Below w.heap.size w w' := by
  have e_k : (k != k) = false := by simp
  have e_tn := sstr_eq tn
  have e_col := sstr_eq col
  have e_uid := sstr_eq uid
  have e_card := sstr_ne hne
  clear hne
  obtain ⟨X, hX⟩ : ∃ X, X = (w.alloc (.cells #[.int .i64 k, .string (bs tn), .string (bs col), .string (bs uid), .string (bs card), .int .i64 ck, .int .i64 cv, .slice A n c, .int .i64 tok, .int .i64 most, .int .i64 ticks] 26)).alloc (.cells #[.int .i64 k, .string (bs tn), .string (bs col), .string (bs uid), .string (bs card'), .int .i64 ck', .int .i64 cv', .slice A' n' c', .int .i64 tok', .int .i64 most', .int .i64 ticks'] 26) := ⟨_, rfl⟩
  have q1 : Blk X w.heap.size 26 #[.int .i64 k, .string (bs tn), .string (bs col), .string (bs uid), .string (bs card), .int .i64 ck, .int .i64 cv, .slice A n c, .int .i64 tok, .int .i64 most, .int .i64 ticks] := by rw [hX]; exact (Blk.new _ _ _).alloc _
  have q2 : Blk X (w.heap.size + 1) 26 #[.int .i64 k, .string (bs tn), .string (bs col), .string (bs uid), .string (bs card'), .int .i64 ck', .int .i64 cv', .slice A' n' c', .int .i64 tok', .int .i64 most', .int .i64 ticks'] := by rw [hX]; exact Blk.new_ _ _ (by simp) _ _
  have HBX := hd (show Below w.heap.size w X by rw [hX]; exact twoB _ _ _)
  obtain ⟨r0, r1, r2, r3, r4, r5, r6, r7, r8, r9, r10⟩ := c11 q1
  obtain ⟨t0, t1, t2, t3, t4, t5, t6, t7, t8, t9, t10⟩ := c11 q2
  have HX := hd hX
  clear q1 q2 hX
  go_enter Tryz.func21, Tryz.ntmps21
  simp only [List.append_eq, List.cons_append, List.nil_append]
  go_upto_region 1 with (fail)
  rw [← HX.o]
  go_wp2
  go_ret
  exact ⟨rfl, HBX.o⟩
set_option maxRecDepth 100000 in
set_option maxHeartbeats 4000000 in
theorem same_no5 (k : Int) (tn : List UInt8) (col : List UInt8) (uid : List UInt8) (card : List UInt8) (ck cv : Int) (ck' cv' : Int) (tok : Int) (tok' : Int) (most : Int) (most' : Int) (ticks : Int) (ticks' : Int) (n : Nat) (n' : Nat) (A A' : Option Addr) (c c' : Nat) (w : World) (hb : n ≤ 1000000) (hb' : n' ≤ 1000000) (hne : ¬ (ck = ck' ∧ cv = cv')) :
    Calls Tryz.prog 21 #[.agg #[.int .i64 k, .string (bs tn), .string (bs col), .string (bs uid), .string (bs card), .int .i64 ck, .int .i64 cv, .slice A n c, .int .i64 tok, .int .i64 most, .int .i64 ticks], .agg #[.int .i64 k, .string (bs tn), .string (bs col), .string (bs uid), .string (bs card), .int .i64 ck', .int .i64 cv', .slice A' n' c', .int .i64 tok', .int .i64 most', .int .i64 ticks']] w fun e w' => e = .returned (.bool false) ∧ Below w.heap.size w w' := by
  have e_k : (k != k) = false := by simp
  have e_tn := sstr_eq tn
  have e_col := sstr_eq col
  have e_uid := sstr_eq uid
  have e_card := sstr_eq card
  have e_cc := cond_neq ck cv ck' cv'
  rw [show (!(decide (ck = ck') && decide (cv = cv'))) = true by simp; omega] at e_cc
  clear hne
  obtain ⟨X, hX⟩ : ∃ X, X = (w.alloc (.cells #[.int .i64 k, .string (bs tn), .string (bs col), .string (bs uid), .string (bs card), .int .i64 ck, .int .i64 cv, .slice A n c, .int .i64 tok, .int .i64 most, .int .i64 ticks] 26)).alloc (.cells #[.int .i64 k, .string (bs tn), .string (bs col), .string (bs uid), .string (bs card), .int .i64 ck', .int .i64 cv', .slice A' n' c', .int .i64 tok', .int .i64 most', .int .i64 ticks'] 26) := ⟨_, rfl⟩
  have q1 : Blk X w.heap.size 26 #[.int .i64 k, .string (bs tn), .string (bs col), .string (bs uid), .string (bs card), .int .i64 ck, .int .i64 cv, .slice A n c, .int .i64 tok, .int .i64 most, .int .i64 ticks] := by rw [hX]; exact (Blk.new _ _ _).alloc _
  have q2 : Blk X (w.heap.size + 1) 26 #[.int .i64 k, .string (bs tn), .string (bs col), .string (bs uid), .string (bs card), .int .i64 ck', .int .i64 cv', .slice A' n' c', .int .i64 tok', .int .i64 most', .int .i64 ticks'] := by rw [hX]; exact Blk.new_ _ _ (by simp) _ _
  have HBX := hd (show Below w.heap.size w X by rw [hX]; exact twoB _ _ _)
  obtain ⟨r0, r1, r2, r3, r4, r5, r6, r7, r8, r9, r10⟩ := c11 q1
  obtain ⟨t0, t1, t2, t3, t4, t5, t6, t7, t8, t9, t10⟩ := c11 q2
  have HX := hd hX
  clear q1 q2 hX
  go_enter Tryz.func21, Tryz.ntmps21
  simp only [List.append_eq, List.cons_append, List.nil_append]
  go_upto_region 1 with (fail)
  rw [← HX.o]
  go_wp2
  go_ret
  exact ⟨rfl, HBX.o⟩
set_option maxRecDepth 100000 in
set_option maxHeartbeats 4000000 in
theorem same_no6 (k : Int) (tn : List UInt8) (col : List UInt8) (uid : List UInt8) (card : List UInt8) (ck cv : Int) (tok : Int) (tok' : Int) (most : Int) (most' : Int) (ticks : Int) (ticks' : Int) (n : Nat) (n' : Nat) (A A' : Option Addr) (c c' : Nat) (w : World) (hb : n ≤ 1000000) (hb' : n' ≤ 1000000) (hne : tok ≠ tok') :
    Calls Tryz.prog 21 #[.agg #[.int .i64 k, .string (bs tn), .string (bs col), .string (bs uid), .string (bs card), .int .i64 ck, .int .i64 cv, .slice A n c, .int .i64 tok, .int .i64 most, .int .i64 ticks], .agg #[.int .i64 k, .string (bs tn), .string (bs col), .string (bs uid), .string (bs card), .int .i64 ck, .int .i64 cv, .slice A' n' c', .int .i64 tok', .int .i64 most', .int .i64 ticks']] w fun e w' => e = .returned (.bool false) ∧ Below w.heap.size w w' := by
  have e_k : (k != k) = false := by simp
  have e_tn := sstr_eq tn
  have e_col := sstr_eq col
  have e_uid := sstr_eq uid
  have e_card := sstr_eq card
  have e_cc := cond_neq ck cv ck cv
  simp only [decide_true, Bool.and_self, Bool.not_true] at e_cc
  have e_tok : (tok != tok') = true := by simpa using hne
  clear hne
  obtain ⟨X, hX⟩ : ∃ X, X = (w.alloc (.cells #[.int .i64 k, .string (bs tn), .string (bs col), .string (bs uid), .string (bs card), .int .i64 ck, .int .i64 cv, .slice A n c, .int .i64 tok, .int .i64 most, .int .i64 ticks] 26)).alloc (.cells #[.int .i64 k, .string (bs tn), .string (bs col), .string (bs uid), .string (bs card), .int .i64 ck, .int .i64 cv, .slice A' n' c', .int .i64 tok', .int .i64 most', .int .i64 ticks'] 26) := ⟨_, rfl⟩
  have q1 : Blk X w.heap.size 26 #[.int .i64 k, .string (bs tn), .string (bs col), .string (bs uid), .string (bs card), .int .i64 ck, .int .i64 cv, .slice A n c, .int .i64 tok, .int .i64 most, .int .i64 ticks] := by rw [hX]; exact (Blk.new _ _ _).alloc _
  have q2 : Blk X (w.heap.size + 1) 26 #[.int .i64 k, .string (bs tn), .string (bs col), .string (bs uid), .string (bs card), .int .i64 ck, .int .i64 cv, .slice A' n' c', .int .i64 tok', .int .i64 most', .int .i64 ticks'] := by rw [hX]; exact Blk.new_ _ _ (by simp) _ _
  have HBX := hd (show Below w.heap.size w X by rw [hX]; exact twoB _ _ _)
  obtain ⟨r0, r1, r2, r3, r4, r5, r6, r7, r8, r9, r10⟩ := c11 q1
  obtain ⟨t0, t1, t2, t3, t4, t5, t6, t7, t8, t9, t10⟩ := c11 q2
  have HX := hd hX
  clear q1 q2 hX
  go_enter Tryz.func21, Tryz.ntmps21
  simp only [List.append_eq, List.cons_append, List.nil_append]
  go_upto_region 1 with (fail)
  rw [← HX.o]
  go_wp2
  go_ret
  exact ⟨rfl, HBX.o⟩
set_option maxRecDepth 100000 in
set_option maxHeartbeats 4000000 in
theorem same_no7 (k : Int) (tn : List UInt8) (col : List UInt8) (uid : List UInt8) (card : List UInt8) (ck cv : Int) (tok : Int) (most : Int) (most' : Int) (ticks : Int) (ticks' : Int) (n : Nat) (n' : Nat) (A A' : Option Addr) (c c' : Nat) (w : World) (hb : n ≤ 1000000) (hb' : n' ≤ 1000000) (hne : most ≠ most') :
    Calls Tryz.prog 21 #[.agg #[.int .i64 k, .string (bs tn), .string (bs col), .string (bs uid), .string (bs card), .int .i64 ck, .int .i64 cv, .slice A n c, .int .i64 tok, .int .i64 most, .int .i64 ticks], .agg #[.int .i64 k, .string (bs tn), .string (bs col), .string (bs uid), .string (bs card), .int .i64 ck, .int .i64 cv, .slice A' n' c', .int .i64 tok, .int .i64 most', .int .i64 ticks']] w fun e w' => e = .returned (.bool false) ∧ Below w.heap.size w w' := by
  have e_k : (k != k) = false := by simp
  have e_tn := sstr_eq tn
  have e_col := sstr_eq col
  have e_uid := sstr_eq uid
  have e_card := sstr_eq card
  have e_cc := cond_neq ck cv ck cv
  simp only [decide_true, Bool.and_self, Bool.not_true] at e_cc
  have e_tok : (tok != tok) = false := by simp
  have e_most : (most != most') = true := by simpa using hne
  clear hne
  obtain ⟨X, hX⟩ : ∃ X, X = (w.alloc (.cells #[.int .i64 k, .string (bs tn), .string (bs col), .string (bs uid), .string (bs card), .int .i64 ck, .int .i64 cv, .slice A n c, .int .i64 tok, .int .i64 most, .int .i64 ticks] 26)).alloc (.cells #[.int .i64 k, .string (bs tn), .string (bs col), .string (bs uid), .string (bs card), .int .i64 ck, .int .i64 cv, .slice A' n' c', .int .i64 tok, .int .i64 most', .int .i64 ticks'] 26) := ⟨_, rfl⟩
  have q1 : Blk X w.heap.size 26 #[.int .i64 k, .string (bs tn), .string (bs col), .string (bs uid), .string (bs card), .int .i64 ck, .int .i64 cv, .slice A n c, .int .i64 tok, .int .i64 most, .int .i64 ticks] := by rw [hX]; exact (Blk.new _ _ _).alloc _
  have q2 : Blk X (w.heap.size + 1) 26 #[.int .i64 k, .string (bs tn), .string (bs col), .string (bs uid), .string (bs card), .int .i64 ck, .int .i64 cv, .slice A' n' c', .int .i64 tok, .int .i64 most', .int .i64 ticks'] := by rw [hX]; exact Blk.new_ _ _ (by simp) _ _
  have HBX := hd (show Below w.heap.size w X by rw [hX]; exact twoB _ _ _)
  obtain ⟨r0, r1, r2, r3, r4, r5, r6, r7, r8, r9, r10⟩ := c11 q1
  obtain ⟨t0, t1, t2, t3, t4, t5, t6, t7, t8, t9, t10⟩ := c11 q2
  have HX := hd hX
  clear q1 q2 hX
  go_enter Tryz.func21, Tryz.ntmps21
  simp only [List.append_eq, List.cons_append, List.nil_append]
  go_upto_region 1 with (fail)
  rw [← HX.o]
  go_wp2
  go_ret
  exact ⟨rfl, HBX.o⟩
set_option maxRecDepth 100000 in
set_option maxHeartbeats 4000000 in
theorem same_no8 (k : Int) (tn : List UInt8) (col : List UInt8) (uid : List UInt8) (card : List UInt8) (ck cv : Int) (tok : Int) (most : Int) (ticks : Int) (ticks' : Int) (n : Nat) (n' : Nat) (A A' : Option Addr) (c c' : Nat) (w : World) (hb : n ≤ 1000000) (hb' : n' ≤ 1000000) (hne : ticks ≠ ticks') :
    Calls Tryz.prog 21 #[.agg #[.int .i64 k, .string (bs tn), .string (bs col), .string (bs uid), .string (bs card), .int .i64 ck, .int .i64 cv, .slice A n c, .int .i64 tok, .int .i64 most, .int .i64 ticks], .agg #[.int .i64 k, .string (bs tn), .string (bs col), .string (bs uid), .string (bs card), .int .i64 ck, .int .i64 cv, .slice A' n' c', .int .i64 tok, .int .i64 most, .int .i64 ticks']] w fun e w' => e = .returned (.bool false) ∧ Below w.heap.size w w' := by
  have e_k : (k != k) = false := by simp
  have e_tn := sstr_eq tn
  have e_col := sstr_eq col
  have e_uid := sstr_eq uid
  have e_card := sstr_eq card
  have e_cc := cond_neq ck cv ck cv
  simp only [decide_true, Bool.and_self, Bool.not_true] at e_cc
  have e_tok : (tok != tok) = false := by simp
  have e_most : (most != most) = false := by simp
  have e_ticks : (ticks != ticks') = true := by simpa using hne
  clear hne
  obtain ⟨X, hX⟩ : ∃ X, X = (w.alloc (.cells #[.int .i64 k, .string (bs tn), .string (bs col), .string (bs uid), .string (bs card), .int .i64 ck, .int .i64 cv, .slice A n c, .int .i64 tok, .int .i64 most, .int .i64 ticks] 26)).alloc (.cells #[.int .i64 k, .string (bs tn), .string (bs col), .string (bs uid), .string (bs card), .int .i64 ck, .int .i64 cv, .slice A' n' c', .int .i64 tok, .int .i64 most, .int .i64 ticks'] 26) := ⟨_, rfl⟩
  have q1 : Blk X w.heap.size 26 #[.int .i64 k, .string (bs tn), .string (bs col), .string (bs uid), .string (bs card), .int .i64 ck, .int .i64 cv, .slice A n c, .int .i64 tok, .int .i64 most, .int .i64 ticks] := by rw [hX]; exact (Blk.new _ _ _).alloc _
  have q2 : Blk X (w.heap.size + 1) 26 #[.int .i64 k, .string (bs tn), .string (bs col), .string (bs uid), .string (bs card), .int .i64 ck, .int .i64 cv, .slice A' n' c', .int .i64 tok, .int .i64 most, .int .i64 ticks'] := by rw [hX]; exact Blk.new_ _ _ (by simp) _ _
  have HBX := hd (show Below w.heap.size w X by rw [hX]; exact twoB _ _ _)
  obtain ⟨r0, r1, r2, r3, r4, r5, r6, r7, r8, r9, r10⟩ := c11 q1
  obtain ⟨t0, t1, t2, t3, t4, t5, t6, t7, t8, t9, t10⟩ := c11 q2
  have HX := hd hX
  clear q1 q2 hX
  go_enter Tryz.func21, Tryz.ntmps21
  simp only [List.append_eq, List.cons_append, List.nil_append]
  go_upto_region 1 with (fail)
  rw [← HX.o]
  go_wp2
  go_ret
  exact ⟨rfl, HBX.o⟩
set_option maxRecDepth 100000 in
set_option maxHeartbeats 4000000 in
theorem same_no9 (k : Int) (tn : List UInt8) (col : List UInt8) (uid : List UInt8) (card : List UInt8) (ck cv : Int) (tok : Int) (most : Int) (ticks : Int) (n : Nat) (n' : Nat) (A A' : Option Addr) (c c' : Nat) (w : World) (hb : n ≤ 1000000) (hb' : n' ≤ 1000000) (hne : n ≠ n') :
    Calls Tryz.prog 21 #[.agg #[.int .i64 k, .string (bs tn), .string (bs col), .string (bs uid), .string (bs card), .int .i64 ck, .int .i64 cv, .slice A n c, .int .i64 tok, .int .i64 most, .int .i64 ticks], .agg #[.int .i64 k, .string (bs tn), .string (bs col), .string (bs uid), .string (bs card), .int .i64 ck, .int .i64 cv, .slice A' n' c', .int .i64 tok, .int .i64 most, .int .i64 ticks]] w fun e w' => e = .returned (.bool false) ∧ Below w.heap.size w w' := by
  have e_k : (k != k) = false := by simp
  have e_tn := sstr_eq tn
  have e_col := sstr_eq col
  have e_uid := sstr_eq uid
  have e_card := sstr_eq card
  have e_cc := cond_neq ck cv ck cv
  simp only [decide_true, Bool.and_self, Bool.not_true] at e_cc
  have e_tok : (tok != tok) = false := by simp
  have e_most : (most != most) = false := by simp
  have e_ticks : (ticks != ticks) = false := by simp
  have e_n : ((n : Int) != (n' : Int)) = true := by simp; omega
  clear hne
  obtain ⟨X, hX⟩ : ∃ X, X = (w.alloc (.cells #[.int .i64 k, .string (bs tn), .string (bs col), .string (bs uid), .string (bs card), .int .i64 ck, .int .i64 cv, .slice A n c, .int .i64 tok, .int .i64 most, .int .i64 ticks] 26)).alloc (.cells #[.int .i64 k, .string (bs tn), .string (bs col), .string (bs uid), .string (bs card), .int .i64 ck, .int .i64 cv, .slice A' n' c', .int .i64 tok, .int .i64 most, .int .i64 ticks] 26) := ⟨_, rfl⟩
  have q1 : Blk X w.heap.size 26 #[.int .i64 k, .string (bs tn), .string (bs col), .string (bs uid), .string (bs card), .int .i64 ck, .int .i64 cv, .slice A n c, .int .i64 tok, .int .i64 most, .int .i64 ticks] := by rw [hX]; exact (Blk.new _ _ _).alloc _
  have q2 : Blk X (w.heap.size + 1) 26 #[.int .i64 k, .string (bs tn), .string (bs col), .string (bs uid), .string (bs card), .int .i64 ck, .int .i64 cv, .slice A' n' c', .int .i64 tok, .int .i64 most, .int .i64 ticks] := by rw [hX]; exact Blk.new_ _ _ (by simp) _ _
  have HBX := hd (show Below w.heap.size w X by rw [hX]; exact twoB _ _ _)
  obtain ⟨r0, r1, r2, r3, r4, r5, r6, r7, r8, r9, r10⟩ := c11 q1
  obtain ⟨t0, t1, t2, t3, t4, t5, t6, t7, t8, t9, t10⟩ := c11 q2
  have HX := hd hX
  clear q1 q2 hX
  go_enter Tryz.func21, Tryz.ntmps21
  simp only [List.append_eq, List.cons_append, List.nil_append]
  go_upto_region 1 with (fail)
  rw [← HX.o]
  go_wp2
  go_ret
  exact ⟨rfl, HBX.o⟩
set_option maxRecDepth 100000 in
set_option maxHeartbeats 4000000 in
theorem same_ops (k : Int) (tn col uid card : List UInt8) (ck cv : Int) (l l' : List OpV) (tok most ticks : Int) (n : Nat) (A A' : Option Addr) (c c' : Nat) (w : World) (hn : n = l.length) (hn' : n = l'.length) (hr : Rds w A n 5 (opsE l)) (hr' : Rds w A' n 5 (opsE l')) (hb : n ≤ 1000000) :
    Calls Tryz.prog 21 #[.agg #[.int .i64 k, .string (bs tn), .string (bs col), .string (bs uid), .string (bs card), .int .i64 ck, .int .i64 cv, .slice A n c, .int .i64 tok, .int .i64 most, .int .i64 ticks], .agg #[.int .i64 k, .string (bs tn), .string (bs col), .string (bs uid), .string (bs card), .int .i64 ck, .int .i64 cv, .slice A' n c', .int .i64 tok, .int .i64 most, .int .i64 ticks]] w fun e w' => e = .returned (.bool (decide (l = l'))) ∧ Below w.heap.size w w' := by
  have HN := hd hn
  have HN' := hd hn'
  have e_k : (k != k) = false := by simp
  have e_tn := sstr_eq tn
  have e_col := sstr_eq col
  have e_uid := sstr_eq uid
  have e_card := sstr_eq card
  have e_cc := cond_neq ck cv ck cv
  simp only [decide_true, Bool.and_self, Bool.not_true] at e_cc
  have e_tok : (tok != tok) = false := by simp
  have e_most : (most != most) = false := by simp
  have e_ticks : (ticks != ticks) = false := by simp
  have e_n : ((n : Int) != (n : Int)) = false := by simp
  clear hn hn'
  obtain ⟨X, hX⟩ : ∃ X, X = (w.alloc (.cells #[.int .i64 k, .string (bs tn), .string (bs col), .string (bs uid), .string (bs card), .int .i64 ck, .int .i64 cv, .slice A n c, .int .i64 tok, .int .i64 most, .int .i64 ticks] 26)).alloc (.cells #[.int .i64 k, .string (bs tn), .string (bs col), .string (bs uid), .string (bs card), .int .i64 ck, .int .i64 cv, .slice A' n c', .int .i64 tok, .int .i64 most, .int .i64 ticks] 26) := ⟨_, rfl⟩
  have q1 : Blk X w.heap.size 26 #[.int .i64 k, .string (bs tn), .string (bs col), .string (bs uid), .string (bs card), .int .i64 ck, .int .i64 cv, .slice A n c, .int .i64 tok, .int .i64 most, .int .i64 ticks] := by rw [hX]; exact (Blk.new _ _ _).alloc _
  have q2 : Blk X (w.heap.size + 1) 26 #[.int .i64 k, .string (bs tn), .string (bs col), .string (bs uid), .string (bs card), .int .i64 ck, .int .i64 cv, .slice A' n c', .int .i64 tok, .int .i64 most, .int .i64 ticks] := by rw [hX]; exact Blk.new_ _ _ (by simp) _ _
  have HBX := hd (show Below w.heap.size w X by rw [hX]; exact twoB _ _ _)
  obtain ⟨r0, r1, r2, r3, r4, r5, r6, r7, r8, r9, r10⟩ := c11 q1
  obtain ⟨t0, t1, t2, t3, t4, t5, t6, t7, t8, t9, t10⟩ := c11 q2
  have HX := hd hX
  clear q1 q2 hX
  have HRX := hd (show Rds X A n 5 (opsE l) by rw [HX.o]; exact (hr.alloc _).alloc _)
  have HRX' := hd (show Rds X A' n 5 (opsE l') by rw [HX.o]; exact (hr'.alloc _).alloc _)
  clear hr hr'
  go_enter Tryz.func21, Tryz.ntmps21
  simp only [List.append_eq, List.cons_append, List.nil_append]
  go_upto_region 1 with (fail)
  rw [← HX.o]
  go_wp2
  go_loopw [5] (fun i wr => ∃ k : Nat, i = .int .i64 k ∧ k ≤ n ∧ (∃ q, wr = X.drewN q) ∧ Hd (∀ j, j < k → l[j]? = l'[j]?)) (fun i _ => n - (intOf i).toNat)
  case atStart => exact ⟨0, rfl, Nat.zero_le _, ⟨0, rfl⟩, fun j hj => by omega⟩
  case round =>
    obtain ⟨k, rfl, hk, ⟨q, rfl⟩, hall⟩ := hrel
    have hki : (0 : Int) ≤ (k : Int) := by omega
    by_cases hlt : k < n
    · have hlti : (k : Int) < (n : Int) := by omega
      obtain ⟨g, o, rfl, hg, hc⟩ := HRX.o.at_ (by omega)
      obtain ⟨g', o', rfl, hg', hc'⟩ := HRX'.o.at_ (by omega)
      obtain ⟨x, hx, hxc⟩ := op_at l k (by rw [← HN.o]; exact hlt)
      obtain ⟨y, hy, hyc⟩ := op_at l' k (by rw [← HN'.o]; exact hlt)
      have hcx : ∀ j u, j < 5 → (opEnc x)[j]? = some u → X.cell? ⟨g, o + (k * 5 + j), none⟩ = some u := fun j u hj hv => hc _ _ ((hxc j hj).trans hv)
      have hcy : ∀ j u, j < 5 → (opEnc y)[j]? = some u → X.cell? ⟨g', o' + (k * 5 + j), none⟩ = some u := fun j u hj hv => hc' _ _ ((hyc j hj).trans hv)
      have heq := op_neq x y
      have HXv := hd hx
      have HYv := hd hy
      have HXY : Hd ((x != y) = true → l ≠ l') := hd (fun h e => by
        subst e
        have := HXv.o.symm.trans HYv.o
        injection this with this
        subst this
        simp at h)
      have HXY2 : Hd ((x != y) = false → ∀ j, j < k + 1 → l[j]? = l'[j]?) := hd (fun h j hj => by
        have hxy : x = y := by simpa using h
        by_cases hjk : j < k
        · exact hall.o j hjk
        · obtain rfl : j = k := by omega
          rw [HXv.o, HYv.o, hxy])
      obtain ⟨bq, hbq⟩ : ∃ bq, (x != y) = bq := ⟨_, rfl⟩
      rw [hbq] at HXY HXY2
      simp only [hbq] at heq
      obtain ⟨xd, xu, xc, xk, xv⟩ := x
      obtain ⟨yd, yu, yc, yk, yv⟩ := y
      have a0 := hcx 0 _ (by omega) rfl
      have a1 := hcx 1 _ (by omega) rfl
      have a2 := hcx 2 _ (by omega) rfl
      have a3 := hcx 3 _ (by omega) rfl
      have a4 := hcx 4 _ (by omega) rfl
      have b0 := hcy 0 _ (by omega) rfl
      have b1 := hcy 1 _ (by omega) rfl
      have b2 := hcy 2 _ (by omega) rfl
      have b3 := hcy 3 _ (by omega) rfl
      have b4 := hcy 4 _ (by omega) rfl
      rw [← Nat.add_assoc] at a0 a1 a2 a3 a4 b0 b1 b2 b3 b4
      rw [Nat.add_zero] at a0 b0
      simp only at heq
      clear hx hy hc hc' hxc hyc hcx hcy hbq r0 r1 r2 r3 r4 r5 r6 r8 r9 r10 t0 t1 t2 t3 t4 t5 t6 t8 t9 t10 e_k e_tn e_col e_uid e_card e_cc e_tok e_most e_ticks e_n
      go_wp2
      go_quiet (fail)
      cases bq with
      | true =>
        go_wp2
        go_ret
        refine ⟨ret_bool ?_, by repeat (first | exact HBX.o | apply bdrewN)⟩
        have := HXY.o (by first | rfl | trivial)
        simp [this]
      | false =>
        have HNX := hd (HXY2.o (by first | rfl | trivial))
        go_wp2
        go_roundw
        case rel => exact ⟨k + 1, by go_num, by omega, ⟨_, rfl⟩, HNX.o⟩
        case measure => simp [intOf]; omega
    · obtain rfl : k = n := by omega
      go_wp2
      go_ret
      refine ⟨ret_bool ?_, by repeat (first | exact HBX.o | apply bdrewN)⟩
      have : l = l' := by
        refine List.ext_getElem? fun j => ?_
        by_cases hj : j < k
        · exact hall.o j hj
        · rw [List.getElem?_eq_none (by rw [← HN.o]; omega), List.getElem?_eq_none (by rw [← HN'.o]; omega)]
      simp [this]
theorem ret_false {b : Bool} {e : Ending} (h : e = .returned (.bool false)) (hb : b = false) : e = .returned (.bool b) := by rw [h, hb]
theorem same_calls (p q : Rq) (A A' : Option Addr) (c c' : Nat) (w : World) (hr : Rds w A p.ops.length 5 (opsE p.ops)) (hr' : Rds w A' q.ops.length 5 (opsE q.ops)) (hb : p.ops.length ≤ 1000000) (hb' : q.ops.length ≤ 1000000) :
    Calls Tryz.prog 21 #[reqV p A c, reqV q A' c'] w fun e w' => e = .returned (.bool (decide (p = q))) ∧ Below w.heap.size w w' := by
  obtain ⟨k, tn, col, uid, card, ck, cv, ops, tok, most, ticks⟩ := p
  obtain ⟨k', tn', col', uid', card', ck', cv', ops', tok', most', ticks'⟩ := q
  unfold reqV reqE
  simp only at *
  by_cases h0 : k = k'
  case neg => exact (same_no0 k k' tn tn' col col' uid uid' card card' ck cv ck' cv' tok tok' most most' ticks ticks' ops.length ops'.length A A' c c' w hb hb' h0).mono fun e w' ⟨he, hw⟩ => ⟨ret_false he (decide_eq_false (fun h => h0 (by injection h with z0 z1 z2 z3 z4 z5 z6 z7 z8 z9 z10 <;> first | assumption | exact ⟨z5, z6⟩ | (rw [z7])))), hw⟩
  subst h0
  by_cases h1 : tn = tn'
  case neg => exact (same_no1 k tn tn' col col' uid uid' card card' ck cv ck' cv' tok tok' most most' ticks ticks' ops.length ops'.length A A' c c' w hb hb' h1).mono fun e w' ⟨he, hw⟩ => ⟨ret_false he (decide_eq_false (fun h => h1 (by injection h with z0 z1 z2 z3 z4 z5 z6 z7 z8 z9 z10 <;> first | assumption | exact ⟨z5, z6⟩ | (rw [z7])))), hw⟩
  subst h1
  by_cases h2 : col = col'
  case neg => exact (same_no2 k tn col col' uid uid' card card' ck cv ck' cv' tok tok' most most' ticks ticks' ops.length ops'.length A A' c c' w hb hb' h2).mono fun e w' ⟨he, hw⟩ => ⟨ret_false he (decide_eq_false (fun h => h2 (by injection h with z0 z1 z2 z3 z4 z5 z6 z7 z8 z9 z10 <;> first | assumption | exact ⟨z5, z6⟩ | (rw [z7])))), hw⟩
  subst h2
  by_cases h3 : uid = uid'
  case neg => exact (same_no3 k tn col uid uid' card card' ck cv ck' cv' tok tok' most most' ticks ticks' ops.length ops'.length A A' c c' w hb hb' h3).mono fun e w' ⟨he, hw⟩ => ⟨ret_false he (decide_eq_false (fun h => h3 (by injection h with z0 z1 z2 z3 z4 z5 z6 z7 z8 z9 z10 <;> first | assumption | exact ⟨z5, z6⟩ | (rw [z7])))), hw⟩
  subst h3
  by_cases h4 : card = card'
  case neg => exact (same_no4 k tn col uid card card' ck cv ck' cv' tok tok' most most' ticks ticks' ops.length ops'.length A A' c c' w hb hb' h4).mono fun e w' ⟨he, hw⟩ => ⟨ret_false he (decide_eq_false (fun h => h4 (by injection h with z0 z1 z2 z3 z4 z5 z6 z7 z8 z9 z10 <;> first | assumption | exact ⟨z5, z6⟩ | (rw [z7])))), hw⟩
  subst h4
  by_cases h5 : ck = ck' ∧ cv = cv'
  case neg => exact (same_no5 k tn col uid card ck cv ck' cv' tok tok' most most' ticks ticks' ops.length ops'.length A A' c c' w hb hb' h5).mono fun e w' ⟨he, hw⟩ => ⟨ret_false he (decide_eq_false (fun h => h5 (by injection h with z0 z1 z2 z3 z4 z5 z6 z7 z8 z9 z10 <;> first | assumption | exact ⟨z5, z6⟩ | (rw [z7])))), hw⟩
  obtain ⟨rfl, rfl⟩ := h5
  by_cases h6 : tok = tok'
  case neg => exact (same_no6 k tn col uid card ck cv tok tok' most most' ticks ticks' ops.length ops'.length A A' c c' w hb hb' h6).mono fun e w' ⟨he, hw⟩ => ⟨ret_false he (decide_eq_false (fun h => h6 (by injection h with z0 z1 z2 z3 z4 z5 z6 z7 z8 z9 z10 <;> first | assumption | exact ⟨z5, z6⟩ | (rw [z7])))), hw⟩
  subst h6
  by_cases h7 : most = most'
  case neg => exact (same_no7 k tn col uid card ck cv tok most most' ticks ticks' ops.length ops'.length A A' c c' w hb hb' h7).mono fun e w' ⟨he, hw⟩ => ⟨ret_false he (decide_eq_false (fun h => h7 (by injection h with z0 z1 z2 z3 z4 z5 z6 z7 z8 z9 z10 <;> first | assumption | exact ⟨z5, z6⟩ | (rw [z7])))), hw⟩
  subst h7
  by_cases h8 : ticks = ticks'
  case neg => exact (same_no8 k tn col uid card ck cv tok most ticks ticks' ops.length ops'.length A A' c c' w hb hb' h8).mono fun e w' ⟨he, hw⟩ => ⟨ret_false he (decide_eq_false (fun h => h8 (by injection h with z0 z1 z2 z3 z4 z5 z6 z7 z8 z9 z10 <;> first | assumption | exact ⟨z5, z6⟩ | (rw [z7])))), hw⟩
  subst h8
  by_cases h9 : ops.length = ops'.length
  case neg => exact (same_no9 k tn col uid card ck cv tok most ticks ops.length ops'.length A A' c c' w hb hb' h9).mono fun e w' ⟨he, hw⟩ => ⟨ret_false he (decide_eq_false (fun h => h9 (by injection h with z0 z1 z2 z3 z4 z5 z6 z7 z8 z9 z10 <;> first | assumption | exact ⟨z5, z6⟩ | (rw [z7])))), hw⟩
  rw [← h9] at hr' ⊢
  refine (same_ops k tn col uid card ck cv ops ops' tok most ticks ops.length A A' c c' w rfl h9 hr hr' hb).mono fun e w' ⟨he, hw⟩ => ⟨?_, hw⟩
  rw [he]
  refine ret_bool ?_
  by_cases he : ops = ops'
  · simp [he]
  · simp [he]

end Go.Proofs.YtogjokofmfpmgaaGreatDoor
