/-
  henref10.SameReq: two requests alike.
-/
import Derived.Test.YtogjokofmfpmgaaGreatDoorGAL
import Derived.Test.YtogjokofmfpmgaaGreatDoorGSA
import Derived.Deep.QuietTactic
import Derived.Test.YtogjokofmfpmgaaGreatDoorGAT
import Derived.Test.YtogjokofmfpmgaaGreatDoorSFst
import Derived.Test.YtogjokofmfpmgaaGreatDoorGSD
set_option linter.unusedVariables false
set_option linter.unusedSimpArgs false
namespace Go.Proofs.YtogjokofmfpmgaaGreatDoor
open Go.RowKit

theorem op_neq (x y : OpV) (W : World) : (binOp .neq 43 (.agg #[.bool x.del, .string (bs x.uid), .string (bs x.card), .int .i64 x.ck, .int .i64 x.cv]) (.agg #[.bool y.del, .string (bs y.uid), .string (bs y.card), .int .i64 y.ck, .int .i64 y.cv])).run Tryz.prog W = .ok (.bool (x != y)) W := by
  have u0 := Tryz.underlying3
  have a0 := Tryz.isAgg3
  have z0 := Tryz.sizeOf3
  have u1 := Tryz.underlying2
  have a1 := Tryz.isAgg2
  have z1 := Tryz.sizeOf2
  have u2 := Tryz.underlying4
  have a2 := Tryz.isAgg4
  have z2 := Tryz.sizeOf4
  have u3 := Tryz.underlying9
  have a3 := Tryz.isAgg9
  have z3 := Tryz.sizeOf9
  have u4 := Tryz.underlying23
  have a4 := Tryz.isAgg23
  have z4 := Tryz.sizeOf23
  have hS : Tryz.prog.underlying 43 = some (.struct (Tryz.prog.fieldsOf 43)) := by kernel_rfl
  have hp : Tryz.prog.stoodInHeld 43 = false := by kernel_rfl
  rw [run_neq_struct, show (10000 : Nat) = 9999 + 1 from rfl, run_equalIn_agg W 9999 43 _ _ hS hp]
  simp only [Program.fieldsOf, Tryz.underlying43]
  go_simp
  obtain ⟨a, b, c, d, f⟩ := x
  obtain ⟨a', b', c', d', f'⟩ := y
  have e : ∀ l : List UInt8, (bs l).toList = l := fun l => by rw [Lib.toList_data]; rfl
  simp only [e]
  by_cases h1 : a = a'
  · by_cases h2 : b = b'
    · by_cases h3 : c = c'
      · by_cases h4 : d = d'
        · by_cases h5 : f = f'
          · simp [h1, h2, h3, h4, h5]
          · simp [h1, h2, h3, h4, h5]
        · simp [h1, h2, h3, h4]
      · simp [h1, h2, h3]
    · simp [h1, h2]
  · simp [h1]
theorem cond_neq (a b a' b' : Int) (W : World) : (binOp .neq 23 (.agg #[.int .i64 a, .int .i64 b]) (.agg #[.int .i64 a', .int .i64 b'])).run Tryz.prog W = .ok (.bool (!(decide (a = a') && decide (b = b')))) W := by
  have u0 := Tryz.underlying3
  have a0 := Tryz.isAgg3
  have z0 := Tryz.sizeOf3
  have u1 := Tryz.underlying2
  have a1 := Tryz.isAgg2
  have z1 := Tryz.sizeOf2
  have hS : Tryz.prog.underlying 23 = some (.struct (Tryz.prog.fieldsOf 23)) := by kernel_rfl
  have hp : Tryz.prog.stoodInHeld 23 = false := by kernel_rfl
  rw [run_neq_struct, show (10000 : Nat) = 9999 + 1 from rfl, run_equalIn_agg W 9999 23 _ _ hS hp]
  simp only [Program.fieldsOf, Tryz.underlying23]
  go_simp
  by_cases h1 : a = a' <;> by_cases h2 : b = b' <;> simp [h1, h2]
theorem op_at (l : List OpV) (k : Nat) (h : k < l.length) : ∃ x, l[k]? = some x ∧ ∀ j, j < 5 → (opsE l)[k * 5 + j]? = (opEnc x)[j]? := ⟨l[k], by simp [h], fun j hj => opsE_at l k h j hj⟩
theorem sstr_ne {a b : List UInt8} (h : a ≠ b) : ((bs a).toList == (bs b).toList) = false := by rw [bs_toL, bs_toL]; simpa using h
theorem sstr_eq (a : List UInt8) : ((bs a).toList == (bs a).toList) = true := by simp

set_option maxRecDepth 100000 in
set_option maxHeartbeats 4000000 in
theorem same_no0 (k : Int) (k' : Int) (tn : List UInt8) (tn' : List UInt8) (col : List UInt8) (col' : List UInt8) (uid : List UInt8) (uid' : List UInt8) (card : List UInt8) (card' : List UInt8) (ck cv : Int) (ck' cv' : Int) (tok : Int) (tok' : Int) (most : Int) (most' : Int) (ticks : Int) (ticks' : Int) (n : Nat) (n' : Nat) (A A' : Option Addr) (c c' : Nat) (w : World) (hb : n ≤ 1000000) (hb' : n' ≤ 1000000) (hne : k ≠ k') :
    Calls Tryz.prog 21 #[.agg #[.int .i64 k, .string (bs tn), .string (bs col), .string (bs uid), .string (bs card), .int .i64 ck, .int .i64 cv, .slice A n c, .int .i64 tok, .int .i64 most, .int .i64 ticks], .agg #[.int .i64 k', .string (bs tn'), .string (bs col'), .string (bs uid'), .string (bs card'), .int .i64 ck', .int .i64 cv', .slice A' n' c', .int .i64 tok', .int .i64 most', .int .i64 ticks']] w fun e w' => e = .returned (.bool false) ∧ Below w.heap.size w w' := by
  have e_k : (k != k') = true := by simpa using hne
  clear hne
  obtain ⟨X, hX⟩ : ∃ X, X = (w.alloc (.cells #[.int .i64 k, .string (bs tn), .string (bs col), .string (bs uid), .string (bs card), .int .i64 ck, .int .i64 cv, .slice A n c, .int .i64 tok, .int .i64 most, .int .i64 ticks] 26)).alloc (.cells #[.int .i64 k', .string (bs tn'), .string (bs col'), .string (bs uid'), .string (bs card'), .int .i64 ck', .int .i64 cv', .slice A' n' c', .int .i64 tok', .int .i64 most', .int .i64 ticks'] 26) := ⟨_, rfl⟩
  have q1 : Blk X w.heap.size 26 #[.int .i64 k, .string (bs tn), .string (bs col), .string (bs uid), .string (bs card), .int .i64 ck, .int .i64 cv, .slice A n c, .int .i64 tok, .int .i64 most, .int .i64 ticks] := by rw [hX]; exact (Blk.new _ _ _).alloc _
  have q2 : Blk X (w.heap.size + 1) 26 #[.int .i64 k', .string (bs tn'), .string (bs col'), .string (bs uid'), .string (bs card'), .int .i64 ck', .int .i64 cv', .slice A' n' c', .int .i64 tok', .int .i64 most', .int .i64 ticks'] := by rw [hX]; exact Blk.new_ _ _ (by simp) _ _
  have HBX := hd (show Below w.heap.size w X by rw [hX]; exact twoB _ _ _)
  obtain ⟨r0, r1, r2, r3, r4, r5, r6, r7, r8, r9, r10⟩ := c11 q1
  obtain ⟨t0, t1, t2, t3, t4, t5, t6, t7, t8, t9, t10⟩ := c11 q2
  have HX := hd hX
  clear q1 q2 hX
  go_enter Tryz.func21, Tryz.ntmps21
  simp only [List.append_eq, List.cons_append, List.nil_append]
  go_upto_region 1 with (fail)
  rw [← HX.o]
  go_wp2
  go_ret
  exact ⟨rfl, HBX.o⟩
set_option maxRecDepth 100000 in
set_option maxHeartbeats 4000000 in
theorem same_no1 (k : Int) (tn : List UInt8) (tn' : List UInt8) (col : List UInt8) (col' : List UInt8) (uid : List UInt8) (uid' : List UInt8) (card : List UInt8) (card' : List UInt8) (ck cv : Int) (ck' cv' : Int) (tok : Int) (tok' : Int) (most : Int) (most' : Int) (ticks : Int) (ticks' : Int) (n : Nat) (n' : Nat) (A A' : Option Addr) (c c' : Nat) (w : World) (hb : n ≤ 1000000) (hb' : n' ≤ 1000000) (hne : tn ≠ tn') :
    Calls Tryz.prog 21 #[.agg #[.int .i64 k, .string (bs tn), .string (bs col), .string (bs uid), .string (bs card), .int .i64 ck, .int .i64 cv, .slice A n c, .int .i64 tok, .int .i64 most, .int .i64 ticks], .agg #[.int .i64 k, .string (bs tn'), .string (bs col'), .string (bs uid'), .string (bs card'), .int .i64 ck', .int .i64 cv', .slice A' n' c', .int .i64 tok', .int .i64 most', .int .i64 ticks']] w fun e w' => e = .returned (.bool false) ∧ Below w.heap.size w w' := by
  have e_k : (k != k) = false := by simp
  have e_tn := sstr_ne hne
  clear hne
  obtain ⟨X, hX⟩ : ∃ X, X = (w.alloc (.cells #[.int .i64 k, .string (bs tn), .string (bs col), .string (bs uid), .string (bs card), .int .i64 ck, .int .i64 cv, .slice A n c, .int .i64 tok, .int .i64 most, .int .i64 ticks] 26)).alloc (.cells #[.int .i64 k, .string (bs tn'), .string (bs col'), .string (bs uid'), .string (bs card'), .int .i64 ck', .int .i64 cv', .slice A' n' c', .int .i64 tok', .int .i64 most', .int .i64 ticks'] 26) := ⟨_, rfl⟩
  have q1 : Blk X w.heap.size 26 #[.int .i64 k, .string (bs tn), .string (bs col), .string (bs uid), .string (bs card), .int .i64 ck, .int .i64 cv, .slice A n c, .int .i64 tok, .int .i64 most, .int .i64 ticks] := by rw [hX]; exact (Blk.new _ _ _).alloc _
  have q2 : Blk X (w.heap.size + 1) 26 #[.int .i64 k, .string (bs tn'), .string (bs col'), .string (bs uid'), .string (bs card'), .int .i64 ck', .int .i64 cv', .slice A' n' c', .int .i64 tok', .int .i64 most', .int .i64 ticks'] := by rw [hX]; exact Blk.new_ _ _ (by simp) _ _
  have HBX := hd (show Below w.heap.size w X by rw [hX]; exact twoB _ _ _)
  obtain ⟨r0, r1, r2, r3, r4, r5, r6, r7, r8, r9, r10⟩ := c11 q1
  obtain ⟨t0, t1, t2, t3, t4, t5, t6, t7, t8, t9, t10⟩ := c11 q2
  have HX := hd hX
  clear q1 q2 hX
  go_enter Tryz.func21, Tryz.ntmps21
  simp only [List.append_eq, List.cons_append, List.nil_append]
  go_upto_region 1 with (fail)
  rw [← HX.o]
  go_wp2
  go_ret
  exact ⟨rfl, HBX.o⟩
set_option maxRecDepth 100000 in
set_option maxHeartbeats 4000000 in
theorem same_no2 (k : Int) (tn : List UInt8) (col : List UInt8) (col' : List UInt8) (uid : List UInt8) (uid' : List UInt8) (card : List UInt8) (card' : List UInt8) (ck cv : Int) (ck' cv' : Int) (tok : Int) (tok' : Int) (most : Int) (most' : Int) (ticks : Int) (ticks' : Int) (n : Nat) (n' : Nat) (A A' : Option Addr) (c c' : Nat) (w : World) (hb : n ≤ 1000000) (hb' : n' ≤ 1000000) (hne : col ≠ col') :
    Calls Tryz.prog 21 #[.agg #[.int .i64 k, .string (bs tn), .string (bs col), .string (bs uid), .string (bs card), .int .i64 ck, .int .i64 cv, .slice A n c, .int .i64 tok, .int .i64 most, .int .i64 ticks], .agg #[.int .i64 k, .string (bs tn), .string (bs col'), .string (bs uid'), .string (bs card'), .int .i64 ck', .int .i64 cv', .slice A' n' c', .int .i64 tok', .int .i64 most', .int .i64 ticks']] w fun e w' => e = .returned (.bool false) ∧ Below w.heap.size w w' := by
  have e_k : (k != k) = false := by simp
  have e_tn := sstr_eq tn
  have e_col := sstr_ne hne
  clear hne
  obtain ⟨X, hX⟩ : ∃ X, X = (w.alloc (.cells #[.int .i64 k, .string (bs tn), .string (bs col), .string (bs uid), .string (bs card), .int .i64 ck, .int .i64 cv, .slice A n c, .int .i64 tok, .int .i64 most, .int .i64 ticks] 26)).alloc (.cells #[.int .i64 k, .string (bs tn), .string (bs col'), .string (bs uid'), .string (bs card'), .int .i64 ck', .int .i64 cv', .slice A' n' c', .int .i64 tok', .int .i64 most', .int .i64 ticks'] 26) := ⟨_, rfl⟩
  have q1 : Blk X w.heap.size 26 #[.int .i64 k, .string (bs tn), .string (bs col), .string (bs uid), .string (bs card), .int .i64 ck, .int .i64 cv, .slice A n c, .int .i64 tok, .int .i64 most, .int .i64 ticks] := by rw [hX]; exact (Blk.new _ _ _).alloc _
  have q2 : Blk X (w.heap.size + 1) 26 #[.int .i64 k, .string (bs tn), .string (bs col'), .string (bs uid'), .string (bs card'), .int .i64 ck', .int .i64 cv', .slice A' n' c', .int .i64 tok', .int .i64 most', .int .i64 ticks'] := by rw [hX]; exact Blk.new_ _ _ (by simp) _ _
  have HBX := hd (show Below w.heap.size w X by rw [hX]; exact twoB _ _ _)
  obtain ⟨r0, r1, r2, r3, r4, r5, r6, r7, r8, r9, r10⟩ := c11 q1
  obtain ⟨t0, t1, t2, t3, t4, t5, t6, t7, t8, t9, t10⟩ := c11 q2
  have HX := hd hX
  clear q1 q2 hX
  go_enter Tryz.func21, Tryz.ntmps21
  simp only [List.append_eq, List.cons_append, List.nil_append]
  go_upto_region 1 with (fail)
  rw [← HX.o]
  go_wp2
  go_ret
  exact ⟨rfl, HBX.o⟩
set_option maxRecDepth 100000 in
set_option maxHeartbeats 4000000 in
theorem same_no3 (k : Int) (tn : List UInt8) (col : List UInt8) (uid : List UInt8) (uid' : List UInt8) (card : List UInt8) (card' : List UInt8) (ck cv : Int) (ck' cv' : Int) (tok : Int) (tok' : Int) (most : Int) (most' : Int) (ticks : Int) (ticks' : Int) (n : Nat) (n' : Nat) (A A' : Option Addr) (c c' : Nat) (w : World) (hb : n ≤ 1000000) (hb' : n' ≤ 1000000) (hne : uid ≠ uid') :
    Calls Tryz.prog 21 #[.agg #[.int .i64 k, .string (bs tn), .string (bs col), .string (bs uid), .string (bs card), .int .i64 ck, .int .i64 cv, .slice A n c, .int .i64 tok, .int .i64 most, .int .i64 ticks], .agg #[.int .i64 k, .string (bs tn), .string (bs col), .string (bs uid'), .string (bs card'), .int .i64 ck', .int .i64 cv', .slice A' n' c', .int .i64 tok', .int .i64 most', .int .i64 ticks']] w fun e w' => e = .returned (.bool false) ∧ Below w.heap.size w w' := by
  have e_k : (k != k) = false := by simp
  have e_tn := sstr_eq tn
  have e_col := sstr_eq col
  have e_uid := sstr_ne hne
  clear hne
  obtain ⟨X, hX⟩ : ∃ X, X = (w.alloc (.cells #[.int .i64 k, .string (bs tn), .string (bs col), .string (bs uid), .string (bs card), .int .i64 ck, .int .i64 cv, .slice A n c, .int .i64 tok, .int .i64 most, .int .i64 ticks] 26)).alloc (.cells #[.int .i64 k, .string (bs tn), .string (bs col), .string (bs uid'), .string (bs card'), .int .i64 ck', .int .i64 cv', .slice A' n' c', .int .i64 tok', .int .i64 most', .int .i64 ticks'] 26) := ⟨_, rfl⟩
  have q1 : Blk X w.heap.size 26 #[.int .i64 k, .string (bs tn), .string (bs col), .string (bs uid), .string (bs card), .int .i64 ck, .int .i64 cv, .slice A n c, .int .i64 tok, .int .i64 most, .int .i64 ticks] := by rw [hX]; exact (Blk.new _ _ _).alloc _
  have q2 : Blk X (w.heap.size + 1) 26 #[.int .i64 k, .string (bs tn), .string (bs col), .string (bs uid'), .string (bs card'), .int .i64 ck', .int .i64 cv', .slice A' n' c', .int .i64 tok', .int .i64 most', .int .i64 ticks'] := by rw [hX]; exact Blk.new_ _ _ (by simp) _ _
  have HBX := hd (show Below w.heap.size w X by rw [hX]; exact twoB _ _ _)
  obtain ⟨r0, r1, r2, r3, r4, r5, r6, r7, r8, r9, r10⟩ := c11 q1
  obtain ⟨t0, t1, t2, t3, t4, t5, t6, t7, t8, t9, t10⟩ := c11 q2
  have HX := hd hX
  clear q1 q2 hX
  go_enter Tryz.func21, Tryz.ntmps21
  simp only [List.append_eq, List.cons_append, List.nil_append]
  go_upto_region 1 with (fail)
  rw [← HX.o]
  go_wp2
  go_ret
  exact ⟨rfl, HBX.o⟩
set_option maxRecDepth 100000 in
set_option maxHeartbeats 4000000 in
theorem same_no4 (k : Int) (tn : List UInt8) (col : List UInt8) (uid : List UInt8) (card : List UInt8) (card' : List UInt8) (ck cv : Int) (ck' cv' : Int) (tok : Int) (tok' : Int) (most : Int) (most' : Int) (ticks : Int) (ticks' : Int) (n : Nat) (n' : Nat) (A A' : Option Addr) (c c' : Nat) (w : World) (hb : n ≤ 1000000) (hb' : n' ≤ 1000000) (hne : card ≠ card') :
    Calls Tryz.prog 21 #[.agg #[.int .i64 k, .string (bs tn), .string (bs col), .string (bs uid), .string (bs card), .int .i64 ck, .int .i64 cv, .slice A n c, .int .i64 tok, .int .i64 most, .int .i64 ticks], .agg #[.int .i64 k, .string (bs tn), .string (bs col), .string (bs uid), .string (bs card'), .int .i64 ck', .int .i64 cv', .slice A' n' c', .int .i64 tok', .int .i64 most', .int .i64 ticks']] w fun e w' => e = .returned (.bool false) ∧ Below w.heap.size w w' := by
  have e_k : (k != k) = false := by simp
  have e_tn := sstr_eq tn
  have e_col := sstr_eq col
  have e_uid := sstr_eq uid
  have e_card := sstr_ne hne
  clear hne
  obtain ⟨X, hX⟩ : ∃ X, X = (w.alloc (.cells #[.int .i64 k, .string (bs tn), .string (bs col), .string (bs uid), .string (bs card), .int .i64 ck, .int .i64 cv, .slice A n c, .int .i64 tok, .int .i64 most, .int .i64 ticks] 26)).alloc (.cells #[.int .i64 k, .string (bs tn), .string (bs col), .string (bs uid), .string (bs card'), .int .i64 ck', .int .i64 cv', .slice A' n' c', .int .i64 tok', .int .i64 most', .int .i64 ticks'] 26) := ⟨_, rfl⟩
  have q1 : Blk X w.heap.size 26 #[.int .i64 k, .string (bs tn), .string (bs col), .string (bs uid), .string (bs card), .int .i64 ck, .int .i64 cv, .slice A n c, .int .i64 tok, .int .i64 most, .int .i64 ticks] := by rw [hX]; exact (Blk.new _ _ _).alloc _
  have q2 : Blk X (w.heap.size + 1) 26 #[.int .i64 k, .string (bs tn), .string (bs col), .string (bs uid), .string (bs card'), .int .i64 ck', .int .i64 cv', .slice A' n' c', .int .i64 tok', .int .i64 most', .int .i64 ticks'] := by rw [hX]; exact Blk.new_ _ _ (by simp) _ _
  have HBX := hd (show Below w.heap.size w X by rw [hX]; exact twoB _ _ _)
  obtain ⟨r0, r1, r2, r3, r4, r5, r6, r7, r8, r9, r10⟩ := c11 q1
  obtain ⟨t0, t1, t2, t3, t4, t5, t6, t7, t8, t9, t10⟩ := c11 q2
  have HX := hd hX
  clear q1 q2 hX
  go_enter Tryz.func21, Tryz.ntmps21
  simp only [List.append_eq, List.cons_append, List.nil_append]
  go_upto_region 1 with (fail)
  rw [← HX.o]
  go_wp2
  go_ret
  exact ⟨rfl, HBX.o⟩
set_option maxRecDepth 100000 in
set_option maxHeartbeats 4000000 in
theorem same_no5 (k : Int) (tn : List UInt8) (col : List UInt8) (uid : List UInt8) (card : List UInt8) (ck cv : Int) (ck' cv' : Int) (tok : Int) (tok' : Int) (most : Int) (most' : Int) (ticks : Int) (ticks' : Int) (n : Nat) (n' : Nat) (A A' : Option Addr) (c c' : Nat) (w : World) (hb : n ≤ 1000000) (hb' : n' ≤ 1000000) (hne : ¬ (ck = ck' ∧ cv = cv')) :
    Calls Tryz.prog 21 #[.agg #[.int .i64 k, .string (bs tn), .string (bs col), .string (bs uid), .string (bs card), .int .i64 ck, .int .i64 cv, .slice A n c, .int .i64 tok, .int .i64 most, .int .i64 ticks], .agg #[.int .i64 k, .string (bs tn), .string (bs col), .string (bs uid), .string (bs card), .int .i64 ck', .int .i64 cv', .slice A' n' c', .int .i64 tok', .int .i64 most', .int .i64 ticks']] w fun e w' => e = .returned (.bool false) ∧ Below w.heap.size w w' := by
  have e_k : (k != k) = false := by simp
  have e_tn := sstr_eq tn
  have e_col := sstr_eq col
  have e_uid := sstr_eq uid
  have e_card := sstr_eq card
  have e_cc := cond_neq ck cv ck' cv'
  rw [show (!(decide (ck = ck') && decide (cv = cv'))) = true by simp; omega] at e_cc
  clear hne
  obtain ⟨X, hX⟩ : ∃ X, X = (w.alloc (.cells #[.int .i64 k, .string (bs tn), .string (bs col), .string (bs uid), .string (bs card), .int .i64 ck, .int .i64 cv, .slice A n c, .int .i64 tok, .int .i64 most, .int .i64 ticks] 26)).alloc (.cells #[.int .i64 k, .string (bs tn), .string (bs col), .string (bs uid), .string (bs card), .int .i64 ck', .int .i64 cv', .slice A' n' c', .int .i64 tok', .int .i64 most', .int .i64 ticks'] 26) := ⟨_, rfl⟩
  have q1 : Blk X w.heap.size 26 #[.int .i64 k, .string (bs tn), .string (bs col), .string (bs uid), .string (bs card), .int .i64 ck, .int .i64 cv, .slice A n c, .int .i64 tok, .int .i64 most, .int .i64 ticks] := by rw [hX]; exact (Blk.new _ _ _).alloc _
  have q2 : Blk X (w.heap.size + 1) 26 #[.int .i64 k, .string (bs tn), .string (bs col), .string (bs uid), .string (bs card), .int .i64 ck', .int .i64 cv', .slice A' n' c', .int .i64 tok', .int .i64 most', .int .i64 ticks'] := by rw [hX]; exact Blk.new_ _ _ (by simp) _ _
  have HBX := hd (show Below w.heap.size w X by rw [hX]; exact twoB _ _ _)
  obtain ⟨r0, r1, r2, r3, r4, r5, r6, r7, r8, r9, r10⟩ := c11 q1
  obtain ⟨t0, t1, t2, t3, t4, t5, t6, t7, t8, t9, t10⟩ := c11 q2
  have HX := hd hX
  clear q1 q2 hX
  go_enter Tryz.func21, Tryz.ntmps21
  simp only [List.append_eq, List.cons_append, List.nil_append]
  go_upto_region 1 with (fail)
  rw [← HX.o]
  go_wp2
  go_ret
  exact ⟨rfl, HBX.o⟩
set_option maxRecDepth 100000 in
set_option maxHeartbeats 4000000 in
theorem same_no6 (k : Int) (tn : List UInt8) (col : List UInt8) (uid : List UInt8) (card : List UInt8) (ck cv : Int) (tok : Int) (tok' : Int) (most : Int) (most' : Int) (ticks : Int) (ticks' : Int) (n : Nat) (n' : Nat) (A A' : Option Addr) (c c' : Nat) (w : World) (hb : n ≤ 1000000) (hb' : n' ≤ 1000000) (hne : tok ≠ tok') :
    Calls Tryz.prog 21 #[.agg #[.int .i64 k, .string (bs tn), .string (bs col), .string (bs uid), .string (bs card), .int .i64 ck, .int .i64 cv, .slice A n c, .int .i64 tok, .int .i64 most, .int .i64 ticks], .agg #[.int .i64 k, .string (bs tn), .string (bs col), .string (bs uid), .string (bs card), .int .i64 ck, .int .i64 cv, .slice A' n' c', .int .i64 tok', .int .i64 most', .int .i64 ticks']] w fun e w' => e = .returned (.bool false) ∧ Below w.heap.size w w' := by
  have e_k : (k != k) = false := by simp
  have e_tn := sstr_eq tn
  have e_col := sstr_eq col
  have e_uid := sstr_eq uid
  have e_card := sstr_eq card
  have e_cc := cond_neq ck cv ck cv
  simp only [decide_true, Bool.and_self, Bool.not_true] at e_cc
  have e_tok : (tok != tok') = true := by simpa using hne
  clear hne
  obtain ⟨X, hX⟩ : ∃ X, X = (w.alloc (.cells #[.int .i64 k, .string (bs tn), .string (bs col), .string (bs uid), .string (bs card), .int .i64 ck, .int .i64 cv, .slice A n c, .int .i64 tok, .int .i64 most, .int .i64 ticks] 26)).alloc (.cells #[.int .i64 k, .string (bs tn), .string (bs col), .string (bs uid), .string (bs card), .int .i64 ck, .int .i64 cv, .slice A' n' c', .int .i64 tok', .int .i64 most', .int .i64 ticks'] 26) := ⟨_, rfl⟩
  have q1 : Blk X w.heap.size 26 #[.int .i64 k, .string (bs tn), .string (bs col), .string (bs uid), .string (bs card), .int .i64 ck, .int .i64 cv, .slice A n c, .int .i64 tok, .int .i64 most, .int .i64 ticks] := by rw [hX]; exact (Blk.new _ _ _).alloc _
  have q2 : Blk X (w.heap.size + 1) 26 #[.int .i64 k, .string (bs tn), .string (bs col), .string (bs uid), .string (bs card), .int .i64 ck, .int .i64 cv, .slice A' n' c', .int .i64 tok', .int .i64 most', .int .i64 ticks'] := by rw [hX]; exact Blk.new_ _ _ (by simp) _ _
  have HBX := hd (show Below w.heap.size w X by rw [hX]; exact twoB _ _ _)
  obtain ⟨r0, r1, r2, r3, r4, r5, r6, r7, r8, r9, r10⟩ := c11 q1
  obtain ⟨t0, t1, t2, t3, t4, t5, t6, t7, t8, t9, t10⟩ := c11 q2
  have HX := hd hX
  clear q1 q2 hX
  go_enter Tryz.func21, Tryz.ntmps21
  simp only [List.append_eq, List.cons_append, List.nil_append]
  go_upto_region 1 with (fail)
  rw [← HX.o]
  go_wp2
  go_ret
  exact ⟨rfl, HBX.o⟩
set_option maxRecDepth 100000 in
set_option maxHeartbeats 4000000 in
theorem same_no7 (k : Int) (tn : List UInt8) (col : List UInt8) (uid : List UInt8) (card : List UInt8) (ck cv : Int) (tok : Int) (most : Int) (most' : Int) (ticks : Int) (ticks' : Int) (n : Nat) (n' : Nat) (A A' : Option Addr) (c c' : Nat) (w : World) (hb : n ≤ 1000000) (hb' : n' ≤ 1000000) (hne : most ≠ most') :
    Calls Tryz.prog 21 #[.agg #[.int .i64 k, .string (bs tn), .string (bs col), .string (bs uid), .string (bs card), .int .i64 ck, .int .i64 cv, .slice A n c, .int .i64 tok, .int .i64 most, .int .i64 ticks], .agg #[.int .i64 k, .string (bs tn), .string (bs col), .string (bs uid), .string (bs card), .int .i64 ck, .int .i64 cv, .slice A' n' c', .int .i64 tok, .int .i64 most', .int .i64 ticks']] w fun e w' => e = .returned (.bool false) ∧ Below w.heap.size w w' := by
  have e_k : (k != k) = false := by simp
  have e_tn := sstr_eq tn
  have e_col := sstr_eq col
  have e_uid := sstr_eq uid
  have e_card := sstr_eq card
  have e_cc := cond_neq ck cv ck cv
  simp only [decide_true, Bool.and_self, Bool.not_true] at e_cc
  have e_tok : (tok != tok) = false := by simp
  have e_most : (most != most') = true := by simpa using hne
  clear hne
  obtain ⟨X, hX⟩ : ∃ X, X = (w.alloc (.cells #[.int .i64 k, .string (bs tn), .string (bs col), .string (bs uid), .string (bs card), .int .i64 ck, .int .i64 cv, .slice A n c, .int .i64 tok, .int .i64 most, .int .i64 ticks] 26)).alloc (.cells #[.int .i64 k, .string (bs tn), .string (bs col), .string (bs uid), .string (bs card), .int .i64 ck, .int .i64 cv, .slice A' n' c', .int .i64 tok, .int .i64 most', .int .i64 ticks'] 26) := ⟨_, rfl⟩
  have q1 : Blk X w.heap.size 26 #[.int .i64 k, .string (bs tn), .string (bs col), .string (bs uid), .string (bs card), .int .i64 ck, .int .i64 cv, .slice A n c, .int .i64 tok, .int .i64 most, .int .i64 ticks] := by rw [hX]; exact (Blk.new _ _ _).alloc _
  have q2 : Blk X (w.heap.size + 1) 26 #[.int .i64 k, .string (bs tn), .string (bs col), .string (bs uid), .string (bs card), .int .i64 ck, .int .i64 cv, .slice A' n' c', .int .i64 tok, .int .i64 most', .int .i64 ticks'] := by rw [hX]; exact Blk.new_ _ _ (by simp) _ _
  have HBX := hd (show Below w.heap.size w X by rw [hX]; exact twoB _ _ _)
  obtain ⟨r0, r1, r2, r3, r4, r5, r6, r7, r8, r9, r10⟩ := c11 q1
  obtain ⟨t0, t1, t2, t3, t4, t5, t6, t7, t8, t9, t10⟩ := c11 q2
  have HX := hd hX
  clear q1 q2 hX
  go_enter Tryz.func21, Tryz.ntmps21
  simp only [List.append_eq, List.cons_append, List.nil_append]
  go_upto_region 1 with (fail)
  rw [← HX.o]
  go_wp2
  go_ret
  exact ⟨rfl, HBX.o⟩
set_option maxRecDepth 100000 in
set_option maxHeartbeats 4000000 in
theorem same_no8 (k : Int) (tn : List UInt8) (col : List UInt8) (uid : List UInt8) (card : List UInt8) (ck cv : Int) (tok : Int) (most : Int) (ticks : Int) (ticks' : Int) (n : Nat) (n' : Nat) (A A' : Option Addr) (c c' : Nat) (w : World) (hb : n ≤ 1000000) (hb' : n' ≤ 1000000) (hne : ticks ≠ ticks') :
    Calls Tryz.prog 21 #[.agg #[.int .i64 k, .string (bs tn), .string (bs col), .string (bs uid), .string (bs card), .int .i64 ck, .int .i64 cv, .slice A n c, .int .i64 tok, .int .i64 most, .int .i64 ticks], .agg #[.int .i64 k, .string (bs tn), .string (bs col), .string (bs uid), .string (bs card), .int .i64 ck, .int .i64 cv, .slice A' n' c', .int .i64 tok, .int .i64 most, .int .i64 ticks']] w fun e w' => e = .returned (.bool false) ∧ Below w.heap.size w w' := by
  have e_k : (k != k) = false := by simp
  have e_tn := sstr_eq tn
  have e_col := sstr_eq col
  have e_uid := sstr_eq uid
  have e_card := sstr_eq card
  have e_cc := cond_neq ck cv ck cv
  simp only [decide_true, Bool.and_self, Bool.not_true] at e_cc
  have e_tok : (tok != tok) = false := by simp
  have e_most : (most != most) = false := by simp
  have e_ticks : (ticks != ticks') = true := by simpa using hne
  clear hne
  obtain ⟨X, hX⟩ : ∃ X, X = (w.alloc (.cells #[.int .i64 k, .string (bs tn), .string (bs col), .string (bs uid), .string (bs card), .int .i64 ck, .int .i64 cv, .slice A n c, .int .i64 tok, .int .i64 most, .int .i64 ticks] 26)).alloc (.cells #[.int .i64 k, .string (bs tn), .string (bs col), .string (bs uid), .string (bs card), .int .i64 ck, .int .i64 cv, .slice A' n' c', .int .i64 tok, .int .i64 most, .int .i64 ticks'] 26) := ⟨_, rfl⟩
  have q1 : Blk X w.heap.size 26 #[.int .i64 k, .string (bs tn), .string (bs col), .string (bs uid), .string (bs card), .int .i64 ck, .int .i64 cv, .slice A n c, .int .i64 tok, .int .i64 most, .int .i64 ticks] := by rw [hX]; exact (Blk.new _ _ _).alloc _
  have q2 : Blk X (w.heap.size + 1) 26 #[.int .i64 k, .string (bs tn), .string (bs col), .string (bs uid), .string (bs card), .int .i64 ck, .int .i64 cv, .slice A' n' c', .int .i64 tok, .int .i64 most, .int .i64 ticks'] := by rw [hX]; exact Blk.new_ _ _ (by simp) _ _
  have HBX := hd (show Below w.heap.size w X by rw [hX]; exact twoB _ _ _)
  obtain ⟨r0, r1, r2, r3, r4, r5, r6, r7, r8, r9, r10⟩ := c11 q1
  obtain ⟨t0, t1, t2, t3, t4, t5, t6, t7, t8, t9, t10⟩ := c11 q2
  have HX := hd hX
  clear q1 q2 hX
  go_enter Tryz.func21, Tryz.ntmps21
  simp only [List.append_eq, List.cons_append, List.nil_append]
  go_upto_region 1 with (fail)
  rw [← HX.o]
  go_wp2
  go_ret
  exact ⟨rfl, HBX.o⟩
set_option maxRecDepth 100000 in
set_option maxHeartbeats 4000000 in
theorem same_no9 (k : Int) (tn : List UInt8) (col : List UInt8) (uid : List UInt8) (card : List UInt8) (ck cv : Int) (tok : Int) (most : Int) (ticks : Int) (n : Nat) (n' : Nat) (A A' : Option Addr) (c c' : Nat) (w : World) (hb : n ≤ 1000000) (hb' : n' ≤ 1000000) (hne : n ≠ n') :
    Calls Tryz.prog 21 #[.agg #[.int .i64 k, .string (bs tn), .string (bs col), .string (bs uid), .string (bs card), .int .i64 ck, .int .i64 cv, .slice A n c, .int .i64 tok, .int .i64 most, .int .i64 ticks], .agg #[.int .i64 k, .string (bs tn), .string (bs col), .string (bs uid), .string (bs card), .int .i64 ck, .int .i64 cv, .slice A' n' c', .int .i64 tok, .int .i64 most, .int .i64 ticks]] w fun e w' => e = .returned (.bool false) ∧ Below w.heap.size w w' := by
  have e_k : (k != k) = false := by simp
  have e_tn := sstr_eq tn
  have e_col := sstr_eq col
  have e_uid := sstr_eq uid
  have e_card := sstr_eq card
  have e_cc := cond_neq ck cv ck cv
  simp only [decide_true, Bool.and_self, Bool.not_true] at e_cc
  have e_tok : (tok != tok) = false := by simp
  have e_most : (most != most) = false := by simp
  have e_ticks : (ticks != ticks) = false := by simp
  have e_n : ((n : Int) != (n' : Int)) = true := by simp; omega
  clear hne
  obtain ⟨X, hX⟩ : ∃ X, X = (w.alloc (.cells #[.int .i64 k, .string (bs tn), .string (bs col), .string (bs uid), .string (bs card), .int .i64 ck, .int .i64 cv, .slice A n c, .int .i64 tok, .int .i64 most, .int .i64 ticks] 26)).alloc (.cells #[.int .i64 k, .string (bs tn), .string (bs col), .string (bs uid), .string (bs card), .int .i64 ck, .int .i64 cv, .slice A' n' c', .int .i64 tok, .int .i64 most, .int .i64 ticks] 26) := ⟨_, rfl⟩
  have q1 : Blk X w.heap.size 26 #[.int .i64 k, .string (bs tn), .string (bs col), .string (bs uid), .string (bs card), .int .i64 ck, .int .i64 cv, .slice A n c, .int .i64 tok, .int .i64 most, .int .i64 ticks] := by rw [hX]; exact (Blk.new _ _ _).alloc _
  have q2 : Blk X (w.heap.size + 1) 26 #[.int .i64 k, .string (bs tn), .string (bs col), .string (bs uid), .string (bs card), .int .i64 ck, .int .i64 cv, .slice A' n' c', .int .i64 tok, .int .i64 most, .int .i64 ticks] := by rw [hX]; exact Blk.new_ _ _ (by simp) _ _
  have HBX := hd (show Below w.heap.size w X by rw [hX]; exact twoB _ _ _)
  obtain ⟨r0, r1, r2, r3, r4, r5, r6, r7, r8, r9, r10⟩ := c11 q1
  obtain ⟨t0, t1, t2, t3, t4, t5, t6, t7, t8, t9, t10⟩ := c11 q2
  have HX := hd hX
  clear q1 q2 hX
  go_enter Tryz.func21, Tryz.ntmps21
  simp only [List.append_eq, List.cons_append, List.nil_append]
  go_upto_region 1 with (fail)
  rw [← HX.o]
  go_wp2
  go_ret
  exact ⟨rfl, HBX.o⟩
set_option maxRecDepth 100000 in
set_option maxHeartbeats 4000000 in
theorem same_ops (k : Int) (tn col uid card : List UInt8) (ck cv : Int) (l l' : List OpV) (tok most ticks : Int) (n : Nat) (A A' : Option Addr) (c c' : Nat) (w : World) (hn : n = l.length) (hn' : n = l'.length) (hr : Rds w A n 5 (opsE l)) (hr' : Rds w A' n 5 (opsE l')) (hb : n ≤ 1000000) :
    Calls Tryz.prog 21 #[.agg #[.int .i64 k, .string (bs tn), .string (bs col), .string (bs uid), .string (bs card), .int .i64 ck, .int .i64 cv, .slice A n c, .int .i64 tok, .int .i64 most, .int .i64 ticks], .agg #[.int .i64 k, .string (bs tn), .string (bs col), .string (bs uid), .string (bs card), .int .i64 ck, .int .i64 cv, .slice A' n c', .int .i64 tok, .int .i64 most, .int .i64 ticks]] w fun e w' => e = .returned (.bool (decide (l = l'))) ∧ Below w.heap.size w w' := by
  have HN := hd hn
  have HN' := hd hn'
  have e_k : (k != k) = false := by simp
  have e_tn := sstr_eq tn
  have e_col := sstr_eq col
  have e_uid := sstr_eq uid
  have e_card := sstr_eq card
  have e_cc := cond_neq ck cv ck cv
  simp only [decide_true, Bool.and_self, Bool.not_true] at e_cc
  have e_tok : (tok != tok) = false := by simp
  have e_most : (most != most) = false := by simp
  have e_ticks : (ticks != ticks) = false := by simp
  have e_n : ((n : Int) != (n : Int)) = false := by simp
  clear hn hn'
  obtain ⟨X, hX⟩ : ∃ X, X = (w.alloc (.cells #[.int .i64 k, .string (bs tn), .string (bs col), .string (bs uid), .string (bs card), .int .i64 ck, .int .i64 cv, .slice A n c, .int .i64 tok, .int .i64 most, .int .i64 ticks] 26)).alloc (.cells #[.int .i64 k, .string (bs tn), .string (bs col), .string (bs uid), .string (bs card), .int .i64 ck, .int .i64 cv, .slice A' n c', .int .i64 tok, .int .i64 most, .int .i64 ticks] 26) := ⟨_, rfl⟩
  have q1 : Blk X w.heap.size 26 #[.int .i64 k, .string (bs tn), .string (bs col), .string (bs uid), .string (bs card), .int .i64 ck, .int .i64 cv, .slice A n c, .int .i64 tok, .int .i64 most, .int .i64 ticks] := by rw [hX]; exact (Blk.new _ _ _).alloc _
  have q2 : Blk X (w.heap.size + 1) 26 #[.int .i64 k, .string (bs tn), .string (bs col), .string (bs uid), .string (bs card), .int .i64 ck, .int .i64 cv, .slice A' n c', .int .i64 tok, .int .i64 most, .int .i64 ticks] := by rw [hX]; exact Blk.new_ _ _ (by simp) _ _
  have HBX := hd (show Below w.heap.size w X by rw [hX]; exact twoB _ _ _)
  obtain ⟨r0, r1, r2, r3, r4, r5, r6, r7, r8, r9, r10⟩ := c11 q1
  obtain ⟨t0, t1, t2, t3, t4, t5, t6, t7, t8, t9, t10⟩ := c11 q2
  have HX := hd hX
  clear q1 q2 hX
  have HRX := hd (show Rds X A n 5 (opsE l) by rw [HX.o]; exact (hr.alloc _).alloc _)
  have HRX' := hd (show Rds X A' n 5 (opsE l') by rw [HX.o]; exact (hr'.alloc _).alloc _)
  clear hr hr'
  go_enter Tryz.func21, Tryz.ntmps21
  simp only [List.append_eq, List.cons_append, List.nil_append]
  go_upto_region 1 with (fail)
  rw [← HX.o]
  go_wp2
  go_loopw [5] (fun i wr => ∃ k : Nat, i = .int .i64 k ∧ k ≤ n ∧ (∃ q, wr = X.drewN q) ∧ Hd (∀ j, j < k → l[j]? = l'[j]?)) (fun i _ => n - (intOf i).toNat)
  case atStart => exact ⟨0, rfl, Nat.zero_le _, ⟨0, rfl⟩, fun j hj => by omega⟩
  case round =>
    obtain ⟨k, rfl, hk, ⟨q, rfl⟩, hall⟩ := hrel
    have hki : (0 : Int) ≤ (k : Int) := by omega
    by_cases hlt : k < n
    · have hlti : (k : Int) < (n : Int) := by omega
      obtain ⟨g, o, rfl, hg, hc⟩ := HRX.o.at_ (by omega)
      obtain ⟨g', o', rfl, hg', hc'⟩ := HRX'.o.at_ (by omega)
      obtain ⟨x, hx, hxc⟩ := op_at l k (by rw [← HN.o]; exact hlt)
      obtain ⟨y, hy, hyc⟩ := op_at l' k (by rw [← HN'.o]; exact hlt)
      have hcx : ∀ j u, j < 5 → (opEnc x)[j]? = some u → X.cell? ⟨g, o + (k * 5 + j), none⟩ = some u := fun j u hj hv => hc _ _ ((hxc j hj).trans hv)
      have hcy : ∀ j u, j < 5 → (opEnc y)[j]? = some u → X.cell? ⟨g', o' + (k * 5 + j), none⟩ = some u := fun j u hj hv => hc' _ _ ((hyc j hj).trans hv)
      have heq := op_neq x y
      have HXv := hd hx
      have HYv := hd hy
      have HXY : Hd ((x != y) = true → l ≠ l') := hd (fun h e => by
        subst e
        have := HXv.o.symm.trans HYv.o
        injection this with this
        subst this
        simp at h)
      have HXY2 : Hd ((x != y) = false → ∀ j, j < k + 1 → l[j]? = l'[j]?) := hd (fun h j hj => by
        have hxy : x = y := by simpa using h
        by_cases hjk : j < k
        · exact hall.o j hjk
        · obtain rfl : j = k := by omega
          rw [HXv.o, HYv.o, hxy])
      obtain ⟨bq, hbq⟩ : ∃ bq, (x != y) = bq := ⟨_, rfl⟩
      rw [hbq] at HXY HXY2
      simp only [hbq] at heq
      obtain ⟨xd, xu, xc, xk, xv⟩ := x
      obtain ⟨yd, yu, yc, yk, yv⟩ := y
      have a0 := hcx 0 _ (by omega) rfl
      have a1 := hcx 1 _ (by omega) rfl
      have a2 := hcx 2 _ (by omega) rfl
      have a3 := hcx 3 _ (by omega) rfl
      have a4 := hcx 4 _ (by omega) rfl
      have b0 := hcy 0 _ (by omega) rfl
      have b1 := hcy 1 _ (by omega) rfl
      have b2 := hcy 2 _ (by omega) rfl
      have b3 := hcy 3 _ (by omega) rfl
      have b4 := hcy 4 _ (by omega) rfl
      rw [← Nat.add_assoc] at a0 a1 a2 a3 a4 b0 b1 b2 b3 b4
      rw [Nat.add_zero] at a0 b0
      simp only at heq
      clear hx hy hc hc' hxc hyc hcx hcy hbq r0 r1 r2 r3 r4 r5 r6 r8 r9 r10 t0 t1 t2 t3 t4 t5 t6 t8 t9 t10 e_k e_tn e_col e_uid e_card e_cc e_tok e_most e_ticks e_n
      go_wp2
      go_quiet (fail)
      cases bq with
      | true =>
        go_wp2
        go_ret
        refine ⟨ret_bool ?_, by repeat (first | exact HBX.o | apply bdrewN)⟩
        have := HXY.o (by first | rfl | trivial)
        simp [this]
      | false =>
        have HNX := hd (HXY2.o (by first | rfl | trivial))
        go_wp2
        go_roundw
        case rel => exact ⟨k + 1, by go_num, by omega, ⟨_, rfl⟩, HNX.o⟩
        case measure => simp [intOf]; omega
    · obtain rfl : k = n := by omega
      go_wp2
      go_ret
      refine ⟨ret_bool ?_, by repeat (first | exact HBX.o | apply bdrewN)⟩
      have : l = l' := by
        refine List.ext_getElem? fun j => ?_
        by_cases hj : j < k
        · exact hall.o j hj
        · rw [List.getElem?_eq_none (by rw [← HN.o]; omega), List.getElem?_eq_none (by rw [← HN'.o]; omega)]
      simp [this]
theorem ret_false {b : Bool} {e : Ending} (h : e = .returned (.bool false)) (hb : b = false) : e = .returned (.bool b) := by rw [h, hb]
theorem same_calls (p q : Rq) (A A' : Option Addr) (c c' : Nat) (w : World) (hr : Rds w A p.ops.length 5 (opsE p.ops)) (hr' : Rds w A' q.ops.length 5 (opsE q.ops)) (hb : p.ops.length ≤ 1000000) (hb' : q.ops.length ≤ 1000000) :
    Calls Tryz.prog 21 #[reqV p A c, reqV q A' c'] w fun e w' => e = .returned (.bool (decide (p = q))) ∧ Below w.heap.size w w' := by
  obtain ⟨k, tn, col, uid, card, ck, cv, ops, tok, most, ticks⟩ := p
  obtain ⟨k', tn', col', uid', card', ck', cv', ops', tok', most', ticks'⟩ := q
  unfold reqV reqE
  simp only at *
  by_cases h0 : k = k'
  case neg => exact (same_no0 k k' tn tn' col col' uid uid' card card' ck cv ck' cv' tok tok' most most' ticks ticks' ops.length ops'.length A A' c c' w hb hb' h0).mono fun e w' ⟨he, hw⟩ => ⟨ret_false he (decide_eq_false (fun h => h0 (by injection h with z0 z1 z2 z3 z4 z5 z6 z7 z8 z9 z10 <;> first | assumption | exact ⟨z5, z6⟩ | (rw [z7])))), hw⟩
  subst h0
  by_cases h1 : tn = tn'
  case neg => exact (same_no1 k tn tn' col col' uid uid' card card' ck cv ck' cv' tok tok' most most' ticks ticks' ops.length ops'.length A A' c c' w hb hb' h1).mono fun e w' ⟨he, hw⟩ => ⟨ret_false he (decide_eq_false (fun h => h1 (by injection h with z0 z1 z2 z3 z4 z5 z6 z7 z8 z9 z10 <;> first | assumption | exact ⟨z5, z6⟩ | (rw [z7])))), hw⟩
  subst h1
  by_cases h2 : col = col'
  case neg => exact (same_no2 k tn col col' uid uid' card card' ck cv ck' cv' tok tok' most most' ticks ticks' ops.length ops'.length A A' c c' w hb hb' h2).mono fun e w' ⟨he, hw⟩ => ⟨ret_false he (decide_eq_false (fun h => h2 (by injection h with z0 z1 z2 z3 z4 z5 z6 z7 z8 z9 z10 <;> first | assumption | exact ⟨z5, z6⟩ | (rw [z7])))), hw⟩
  subst h2
  by_cases h3 : uid = uid'
  case neg => exact (same_no3 k tn col uid uid' card card' ck cv ck' cv' tok tok' most most' ticks ticks' ops.length ops'.length A A' c c' w hb hb' h3).mono fun e w' ⟨he, hw⟩ => ⟨ret_false he (decide_eq_false (fun h => h3 (by injection h with z0 z1 z2 z3 z4 z5 z6 z7 z8 z9 z10 <;> first | assumption | exact ⟨z5, z6⟩ | (rw [z7])))), hw⟩
  subst h3
  by_cases h4 : card = card'
  case neg => exact (same_no4 k tn col uid card card' ck cv ck' cv' tok tok' most most' ticks ticks' ops.length ops'.length A A' c c' w hb hb' h4).mono fun e w' ⟨he, hw⟩ => ⟨ret_false he (decide_eq_false (fun h => h4 (by injection h with z0 z1 z2 z3 z4 z5 z6 z7 z8 z9 z10 <;> first | assumption | exact ⟨z5, z6⟩ | (rw [z7])))), hw⟩
  subst h4
  by_cases h5 : ck = ck' ∧ cv = cv'
  case neg => exact (same_no5 k tn col uid card ck cv ck' cv' tok tok' most most' ticks ticks' ops.length ops'.length A A' c c' w hb hb' h5).mono fun e w' ⟨he, hw⟩ => ⟨ret_false he (decide_eq_false (fun h => h5 (by injection h with z0 z1 z2 z3 z4 z5 z6 z7 z8 z9 z10 <;> first | assumption | exact ⟨z5, z6⟩ | (rw [z7])))), hw⟩
  obtain ⟨rfl, rfl⟩ := h5
  by_cases h6 : tok = tok'
  case neg => exact (same_no6 k tn col uid card ck cv tok tok' most most' ticks ticks' ops.length ops'.length A A' c c' w hb hb' h6).mono fun e w' ⟨he, hw⟩ => ⟨ret_false he (decide_eq_false (fun h => h6 (by injection h with z0 z1 z2 z3 z4 z5 z6 z7 z8 z9 z10 <;> first | assumption | exact ⟨z5, z6⟩ | (rw [z7])))), hw⟩
  subst h6
  by_cases h7 : most = most'
  case neg => exact (same_no7 k tn col uid card ck cv tok most most' ticks ticks' ops.length ops'.length A A' c c' w hb hb' h7).mono fun e w' ⟨he, hw⟩ => ⟨ret_false he (decide_eq_false (fun h => h7 (by injection h with z0 z1 z2 z3 z4 z5 z6 z7 z8 z9 z10 <;> first | assumption | exact ⟨z5, z6⟩ | (rw [z7])))), hw⟩
  subst h7
  by_cases h8 : ticks = ticks'
  case neg => exact (same_no8 k tn col uid card ck cv tok most ticks ticks' ops.length ops'.length A A' c c' w hb hb' h8).mono fun e w' ⟨he, hw⟩ => ⟨ret_false he (decide_eq_false (fun h => h8 (by injection h with z0 z1 z2 z3 z4 z5 z6 z7 z8 z9 z10 <;> first | assumption | exact ⟨z5, z6⟩ | (rw [z7])))), hw⟩
  subst h8
  by_cases h9 : ops.length = ops'.length
  case neg => exact (same_no9 k tn col uid card ck cv tok most ticks ops.length ops'.length A A' c c' w hb hb' h9).mono fun e w' ⟨he, hw⟩ => ⟨ret_false he (decide_eq_false (fun h => h9 (by injection h with z0 z1 z2 z3 z4 z5 z6 z7 z8 z9 z10 <;> first | assumption | exact ⟨z5, z6⟩ | (rw [z7])))), hw⟩
  rw [← h9] at hr' ⊢
  refine (same_ops k tn col uid card ck cv ops ops' tok most ticks ops.length A A' c c' w rfl h9 hr hr' hb).mono fun e w' ⟨he, hw⟩ => ⟨?_, hw⟩
  rw [he]
  refine ret_bool ?_
  by_cases he : ops = ops'
  · simp [he]
  · simp [he]

end Go.Proofs.YtogjokofmfpmgaaGreatDoor
namespace Go.Proofs.YtogjokofmfpmgaaGreatDoor
open Go.RowKit

def sameT (a b : Tn) : Prop := a.what = b.what ∧ a.seq = b.seq ∧ a.k = b.k ∧ a.e = b.e ∧ a.q = b.q
instance (a b : Tn) : Decidable (sameT a b) := by unfold sameT; infer_instance
theorem alloc_sz (w : World) (o : Obj) : (w.alloc o).heap.size = w.heap.size + 1 := Array.size_push _
theorem sameT_rfl (a : Tn) : sameT a a := ⟨rfl, rfl, rfl, rfl, rfl⟩
set_option maxRecDepth 100000 in
set_option maxHeartbeats 4000000 in
theorem tsame_calls (a b : Tn) (A A' : Option Addr) (c c' : Nat) (w : World) (hr : Rds w A a.q.ops.length 5 (opsE a.q.ops)) (hr' : Rds w A' b.q.ops.length 5 (opsE b.q.ops)) (hb : a.q.ops.length ≤ 1000000) (hb' : b.q.ops.length ≤ 1000000) :
    Calls Tryz.prog 33 #[turnV a A c, turnV b A' c'] w fun e w' => e = .returned (.bool (decide (sameT a b))) ∧ Below w.heap.size w w' := by
  obtain ⟨w0, hw0⟩ : ∃ w0, w0 = (w.alloc (.cells #[.int .i64 a.what, .int .i64 a.seq, .int .i64 a.k, .int .i64 a.q.k, .string (bs a.q.tn), .string (bs a.q.col), .string (bs a.q.uid), .string (bs a.q.card), .int .i64 a.q.ck, .int .i64 a.q.cv, .slice A a.q.ops.length c, .int .i64 a.q.tok, .int .i64 a.q.most, .int .i64 a.q.ticks, .int .i64 a.e] 61)).alloc (.cells #[.int .i64 b.what, .int .i64 b.seq, .int .i64 b.k, .int .i64 b.q.k, .string (bs b.q.tn), .string (bs b.q.col), .string (bs b.q.uid), .string (bs b.q.card), .int .i64 b.q.ck, .int .i64 b.q.cv, .slice A' b.q.ops.length c', .int .i64 b.q.tok, .int .i64 b.q.most, .int .i64 b.q.ticks, .int .i64 b.e] 63) := ⟨_, rfl⟩
  have hA : Blk w0 w.heap.size 61 #[.int .i64 a.what, .int .i64 a.seq, .int .i64 a.k, .int .i64 a.q.k, .string (bs a.q.tn), .string (bs a.q.col), .string (bs a.q.uid), .string (bs a.q.card), .int .i64 a.q.ck, .int .i64 a.q.cv, .slice A a.q.ops.length c, .int .i64 a.q.tok, .int .i64 a.q.most, .int .i64 a.q.ticks, .int .i64 a.e] := by rw [hw0]; exact (Blk.new _ _ _).alloc _
  have hsz : (w.alloc (.cells #[.int .i64 a.what, .int .i64 a.seq, .int .i64 a.k, .int .i64 a.q.k, .string (bs a.q.tn), .string (bs a.q.col), .string (bs a.q.uid), .string (bs a.q.card), .int .i64 a.q.ck, .int .i64 a.q.cv, .slice A a.q.ops.length c, .int .i64 a.q.tok, .int .i64 a.q.most, .int .i64 a.q.ticks, .int .i64 a.e] 61)).heap.size = w.heap.size + 1 := alloc_sz _ _
  have hB : Blk w0 (w.heap.size + 1) 63 #[.int .i64 b.what, .int .i64 b.seq, .int .i64 b.k, .int .i64 b.q.k, .string (bs b.q.tn), .string (bs b.q.col), .string (bs b.q.uid), .string (bs b.q.card), .int .i64 b.q.ck, .int .i64 b.q.cv, .slice A' b.q.ops.length c', .int .i64 b.q.tok, .int .i64 b.q.most, .int .i64 b.q.ticks, .int .i64 b.e] := by rw [hw0, ← hsz]; exact Blk.new _ _ _
  have HB := hd (show Below w.heap.size w w0 by rw [hw0]; exact ((Below.refl _ w).alloc (Nat.le_refl _) _).alloc (by rw [hsz]; omega) _)
  have C1 := hd (same_calls a.q b.q A A' c c' w0 (hr.below HB.o) (hr'.below HB.o) hb hb')
  have a0 := hA.at_ 0 rfl
  have a1 := hA.at_ 1 rfl
  have a2 := hA.at_ 2 rfl
  have a3 := hA.at_ 3 rfl
  have a4 := hA.at_ 4 rfl
  have a5 := hA.at_ 5 rfl
  have a6 := hA.at_ 6 rfl
  have a7 := hA.at_ 7 rfl
  have a8 := hA.at_ 8 rfl
  have a9 := hA.at_ 9 rfl
  have a10 := hA.at_ 10 rfl
  have a11 := hA.at_ 11 rfl
  have a12 := hA.at_ 12 rfl
  have a13 := hA.at_ 13 rfl
  have a14 := hA.at_ 14 rfl
  have b0 := hB.at_ 0 rfl
  have b1 := hB.at_ 1 rfl
  have b2 := hB.at_ 2 rfl
  have b3 := hB.at_ 3 rfl
  have b4 := hB.at_ 4 rfl
  have b5 := hB.at_ 5 rfl
  have b6 := hB.at_ 6 rfl
  have b7 := hB.at_ 7 rfl
  have b8 := hB.at_ 8 rfl
  have b9 := hB.at_ 9 rfl
  have b10 := hB.at_ 10 rfl
  have b11 := hB.at_ 11 rfl
  have b12 := hB.at_ 12 rfl
  have b13 := hB.at_ 13 rfl
  have b14 := hB.at_ 14 rfl
  have HW := hd hw0
  have HS := hd (show sameT a b ↔ a.what = b.what ∧ a.seq = b.seq ∧ a.k = b.k ∧ a.e = b.e ∧ a.q = b.q from Iff.rfl)
  clear hw0 hA hB hr hr' hb hb'
  unfold turnV turnE reqE
  go_enter Tryz.func33, Tryz.ntmps33
  go_upto_region 1 with (fail)
  rw [← HW.o]
  clear hsz
  by_cases h1 : a.what = b.what
  case neg =>
    have e1 : (a.what == b.what) = false := by simpa using h1
    go_wp2_with fail
    go_ret
    exact ⟨ret_bool (by simp [sameT, h1]), HB.o⟩
  case pos =>
  have e1 : (a.what == b.what) = true := by simpa using h1
  by_cases h2 : a.seq = b.seq
  case neg =>
    have e2 : (a.seq == b.seq) = false := by simpa using h2
    go_wp2_with fail
    go_ret
    exact ⟨ret_bool (by simp [sameT, h2]), HB.o⟩
  case pos =>
  have e2 : (a.seq == b.seq) = true := by simpa using h2
  by_cases h3 : a.k = b.k
  case neg =>
    have e3 : (a.k == b.k) = false := by simpa using h3
    go_wp2_with fail
    go_ret
    exact ⟨ret_bool (by simp [sameT, h3]), HB.o⟩
  case pos =>
  have e3 : (a.k == b.k) = true := by simpa using h3
  by_cases h4 : a.e = b.e
  case neg =>
    have e4 : (a.e == b.e) = false := by simpa using h4
    go_wp2_with fail
    go_ret
    exact ⟨ret_bool (by simp [sameT, h4]), HB.o⟩
  case pos =>
  have e4 : (a.e == b.e) = true := by simpa using h4
  have HE := hd (show decide (sameT a b) = decide (a.q = b.q) by simp [sameT, h1, h2, h3, h4])
  clear HS h1 h2 h3 h4
  go_wp2_with fail
  refine C1.o.mono ?_
  rintro e w2 ⟨rfl, hb2⟩
  have HB2 := hd (HB.o.trans (hb2.mono HB.o.size))
  clear hb2
  go_wp2_with fail
  go_ret
  exact ⟨ret_bool HE.o.symm, HB2.o⟩
end Go.Proofs.YtogjokofmfpmgaaGreatDoor
namespace Go.Proofs.YtogjokofmfpmgaaGreatDoor
open Go.RowKit

structure TwoS (v w : World) (g p g2 p2 : Nat) (s t : Ss) : Prop where
  a : SesR w g p s
  r : RSesR w g2 p2 t
  lo : v.heap.size ≤ g ∧ v.heap.size ≤ p ∧ v.heap.size ≤ g2 ∧ v.heap.size ≤ p2
  b : Below v.heap.size v w
section
variable {v w w' : World} {g p g2 p2 : Nat} {s s' t t' : Ss}
theorem TwoS.no1 (h : TwoS v w g p g2 p2 s t) : ¬ Two g p g2 ∧ ¬ Two g p p2 :=
  ⟨fun k => by rcases k with k | k; exact h.r.b.ne_ h.a.b (by decide) k; exact h.r.b.ne_ h.a.p (by decide) k, fun k => by rcases k with k | k; exact h.r.p.ne_ h.a.b (by decide) k; exact h.r.p.ne_ h.a.p (by decide) k⟩
theorem TwoS.no2 (h : TwoS v w g p g2 p2 s t) : ¬ Two g2 p2 g ∧ ¬ Two g2 p2 p :=
  ⟨fun k => by rcases k with k | k; exact h.a.b.ne_ h.r.b (by decide) k; exact h.a.b.ne_ h.r.p (by decide) k, fun k => by rcases k with k | k; exact h.a.p.ne_ h.r.b (by decide) k; exact h.a.p.ne_ h.r.p (by decide) k⟩
theorem TwoS.go1 (h : TwoS v w g p g2 p2 s t) (hc : Chg (Two g p) w w') (hs : SesR w' g p s') : TwoS v w' g p g2 p2 s' t :=
  ⟨hs, ⟨h.r.b.chg hc h.no1.1, h.r.p.chg hc h.no1.2⟩, h.lo, h.b.trans (hc.below (fun k hk => by rcases hk with rfl | rfl; exact h.lo.1; exact h.lo.2.1) h.b.size)⟩
theorem TwoS.go2 (h : TwoS v w g p g2 p2 s t) (hc : Chg (Two g2 p2) w w') (hs : RSesR w' g2 p2 t') : TwoS v w' g p g2 p2 s t' :=
  ⟨⟨h.a.b.chg hc h.no2.1, h.a.p.chg hc h.no2.2⟩, hs, h.lo, h.b.trans (hc.below (fun k hk => by rcases hk with rfl | rfl; exact h.lo.2.2.1; exact h.lo.2.2.2) h.b.size)⟩
theorem TwoS.below (h : TwoS v w g p g2 p2 s t) (hb : Below w.heap.size w w') : TwoS v w' g p g2 p2 s t :=
  ⟨⟨h.a.b.below hb h.a.b.lt, h.a.p.below hb h.a.p.lt⟩, ⟨h.r.b.below hb h.r.b.lt, h.r.p.below hb h.r.p.lt⟩, h.lo, h.b.trans (hb.mono h.b.size)⟩
theorem TwoS.drew (h : TwoS v w g p g2 p2 s t) : TwoS v w.drew g p g2 p2 s t := ⟨⟨h.a.b.drew, h.a.p.drew⟩, ⟨h.r.b.drew, h.r.p.drew⟩, h.lo, h.b.drew⟩
theorem two_feed1 (h : TwoS v w g p g2 p2 s t) (x : ByteArray) (hr0 : 0 ≤ s.room) (hr : s.room ≤ 9223372036854775807) (hb : s.buf.length ≤ 1000000000) (hx : x.size ≤ 1000000000) :
    Calls Tryz.prog 30 #[.pointer (some ⟨g, 0, none⟩), .string x] w fun e w' => e = .returned (.bool (mayFeed s x.data.toList)) ∧ TwoS v w' g p g2 p2 (feedS s x.data.toList) t :=
  (feed_calls w g p s x h.a hr0 hr hb hx).mono fun e w' ⟨he, hs, hc⟩ => ⟨he, h.go1 hc.two hs⟩
theorem two_feed2 (h : TwoS v w g p g2 p2 s t) (x : ByteArray) (hr0 : 0 ≤ t.room) (hr : t.room ≤ 9223372036854775807) (hb : t.buf.length ≤ 1000000000) (hx : x.size ≤ 1000000000) :
    Calls Tryz.prog 31 #[.pointer (some ⟨p2, 0, none⟩), .string x] w fun e w' => e = .returned (.bool (mayFeed t x.data.toList)) ∧ TwoS v w' g p g2 p2 s (feedS t x.data.toList) :=
  (rpput_calls w p2 t.room t.buf t.closed x h.r.p hr0 hr hb hx).mono fun e w' ⟨he, hs, hc⟩ => by
    rw [← may_feed] at he hs
    refine ⟨he, h.go2 hc.two ⟨?_, ?_⟩⟩
    · have := h.r.b.chg hc (fun k => h.r.ne k)
      unfold feedS
      split <;> exact this
    · unfold feedS
      split
      · rename_i hm; rw [if_pos hm] at hs; exact hs
      · rename_i hm; rw [if_neg hm] at hs; exact hs
theorem two_half1 (h : TwoS v w g p g2 p2 s t) : Calls Tryz.prog 32 #[.pointer (some ⟨g, 0, none⟩)] w fun e w' => e = .returned (.tuple #[]) ∧ TwoS v w' g p g2 p2 (halfS s) t :=
  (half_calls w g p s h.a).mono fun e w' ⟨he, hs, hc⟩ => ⟨he, h.go1 hc.two hs⟩
theorem two_half2 (h : TwoS v w g p g2 p2 s t) : TwoS v (w.setCell ⟨p2, 2, none⟩ (.bool true)) g p g2 p2 s (halfS t) :=
  h.go2 ((Chg.refl _ _).setCell (.inl (.inr rfl)) _) ⟨h.r.b.far h.r.ne _, by simpa [pipE, halfS] using h.r.p.set_ 2 (.bool true)⟩
theorem two_ready1 (h : TwoS v w g p g2 p2 s t) (hb : s.buf.length ≤ 1000000) : Calls Tryz.prog 36 #[.pointer (some ⟨g, 0, none⟩)] w fun e w' => e = .returned (.bool (readyS s)) ∧ TwoS v w' g p g2 p2 s t :=
  (ready_calls w g p s h.a hb).mono fun e w' ⟨he, hb⟩ => ⟨he, h.below hb⟩
theorem two_ready2 (h : TwoS v w g p g2 p2 s t) (hb : t.buf.length ≤ 1000000) : Calls Tryz.prog 37 #[.pointer (some ⟨g2, 0, none⟩)] w fun e w' => e = .returned (.bool (readyS t)) ∧ TwoS v w' g p g2 p2 s t :=
  (rready_calls w g2 p2 t h.r hb).mono fun e w' ⟨he, hb⟩ => ⟨he, h.below hb⟩
theorem two_tenant (h : TwoS v w g p g2 p2 s t) : Calls Tryz.prog 38 #[.pointer (some ⟨g, 0, none⟩)] w fun e w' => e = .returned (.string (bs s.tn)) ∧ TwoS v w' g p g2 p2 s t :=
  (tenant_calls w g p s h.a).mono fun e w' ⟨he, hw⟩ => ⟨he, hw ▸ h⟩
theorem two_seq (h : TwoS v w g p g2 p2 s t) : Calls Tryz.prog 39 #[.pointer (some ⟨g, 0, none⟩)] w fun e w' => e = .returned (.int .i64 s.seq) ∧ TwoS v w' g p g2 p2 s t :=
  (seq_calls w g p s h.a).mono fun e w' ⟨he, hw⟩ => ⟨he, hw ▸ h⟩
theorem two_next1 (ht : Tbs v) (h : TwoS v w g p g2 p2 s t) (hb : s.buf.length ≤ 1000000) (hq : 0 ≤ s.seq ∧ s.seq ≤ 1000000) :
    Calls Tryz.prog 34 #[.pointer (some ⟨g, 0, none⟩)] w fun e w' => ∃ (A : Option Addr) (c : Nat), e = .returned (turnV (nextS s).1 A c) ∧ Row w' (From w.heap.size) 43 5 A (nextS s).1.q.ops.length c (opsE (nextS s).1.q.ops) ∧ TwoS v w' g p g2 p2 (nextS s).2 t ∧ g2 < w.heap.size ∧ p2 < w.heap.size :=
  (next_calls_s w g p s h.a hb hq v ht h.b h.lo.1 h.lo.2.1).mono fun e w' ⟨⟨A, c, he, hr, hs, hc⟩⟩ => ⟨A, c, he, hr, h.go1 hc hs, h.r.b.lt, h.r.p.lt⟩
theorem two_next2 (h : TwoS v w g p g2 p2 s t) (hb : t.buf.length ≤ 1000000) (hq : 0 ≤ t.seq ∧ t.seq ≤ 1000000) :
    Calls Tryz.prog 35 #[.pointer (some ⟨g2, 0, none⟩)] w fun e w' => ∃ (A : Option Addr) (c : Nat), e = .returned (turnV (nextS t).1 A c) ∧ Row w' (From w.heap.size) 43 5 A (nextS t).1.q.ops.length c (opsE (nextS t).1.q.ops) ∧ TwoS v w' g p g2 p2 s (nextS t).2 ∧ Chg (Two g2 p2) w w' :=
  (rnext_whole w g2 p2 t h.r hb hq).mono fun e w' ⟨⟨A, c, he, hr, hs, hc⟩⟩ => ⟨A, c, he, hr, h.go2 hc hs, hc⟩
end
theorem two_new1 {v w : World} (r : Int) (h : Below v.heap.size v w) : Calls Tryz.prog 28 #[.int .i64 r] w fun e w' => ∃ g p, e = .returned (.pointer (some ⟨g, 0, none⟩)) ∧ SesA v w' g p (newS r) :=
  (snew_a v w r h).mono fun e w' ⟨g, p, he, hs, _⟩ => ⟨g, p, he, hs⟩
theorem two_new2 {v w : World} {g p : Nat} {s : Ss} (r : Int) (h : SesA v w g p s) : Calls Tryz.prog 29 #[.int .i64 r] w fun e w' => ∃ g2 p2, e = .returned (.pointer (some ⟨g2, 0, none⟩)) ∧ TwoS v w' g p g2 p2 s (newS r) :=
  (rsnew_calls w r).mono fun e w' ⟨g2, he, hs, hg, hb⟩ => ⟨g2, w.heap.size, he, ⟨(h.below hb).r, hs, ⟨h.g, h.p, Nat.le_trans h.b.size (Nat.le_of_lt hg), h.b.size⟩, (h.below hb).b⟩⟩
/-- How many ops a turn has. -/
theorem next_ops (s : Ss) : (nextS s).1.q.ops.length ≤ 1000000 := by
  rcases look_or s with h | h | ⟨h, _⟩ | ⟨h, _⟩
  · rw [next_0 h]; exact Nat.zero_le _
  · rw [next_4 h]; exact Nat.zero_le _
  · rw [next_3 h]; exact Nat.zero_le _
  · by_cases he : errS s = 0
    · rw [next_1 h he]
      exact Nat.le_trans (dec_ok (err_ok he).1).2.2.2.ops.1 (by decide)
    · rw [next_2 h he]; exact Nat.zero_le _
end Go.Proofs.YtogjokofmfpmgaaGreatDoor
