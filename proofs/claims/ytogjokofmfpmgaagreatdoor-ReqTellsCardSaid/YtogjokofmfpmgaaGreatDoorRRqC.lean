/-
  The reference's CheckReq.
-/
import Derived.Test.YtogjokofmfpmgaaGreatDoorGRC
import Derived.Test.YtogjokofmfpmgaaGreatDoorGRA
import Derived.Test.YtogjokofmfpmgaaGreatDoorGRB
import Derived.Test.YtogjokofmfpmgaaGreatDoorGRD
import Derived.Test.YtogjokofmfpmgaaGreatDoorGAK
import Derived.Test.YtogjokofmfpmgaaGreatDoorGRG
import Derived.Test.YtogjokofmfpmgaaGreatDoorGAH
set_option linter.unusedVariables false
set_option linter.unusedSimpArgs false
namespace Go.Proofs.YtogjokofmfpmgaaGreatDoor
open Go.RowKit

theorem kind_all {k : Int} (h : isK k = true) : (k = 1 ∧ hT k = true ∧ hC k = false ∧ hU k = false ∧ hCd k = false ∧ hCn k = false ∧ hO k = false ∧ hTk k = false ∧ hM k = false ∧ hTi k = false) ∨ (k = 2 ∧ hT k = false ∧ hC k = true ∧ hU k = false ∧ hCd k = false ∧ hCn k = false ∧ hO k = false ∧ hTk k = false ∧ hM k = false ∧ hTi k = false) ∨ (k = 3 ∧ hT k = false ∧ hC k = true ∧ hU k = false ∧ hCd k = false ∧ hCn k = false ∧ hO k = false ∧ hTk k = false ∧ hM k = false ∧ hTi k = false) ∨ (k = 4 ∧ hT k = false ∧ hC k = true ∧ hU k = true ∧ hCd k = true ∧ hCn k = true ∧ hO k = false ∧ hTk k = false ∧ hM k = false ∧ hTi k = false) ∨ (k = 5 ∧ hT k = false ∧ hC k = true ∧ hU k = true ∧ hCd k = false ∧ hCn k = true ∧ hO k = false ∧ hTk k = false ∧ hM k = false ∧ hTi k = false) ∨ (k = 6 ∧ hT k = false ∧ hC k = true ∧ hU k = true ∧ hCd k = false ∧ hCn k = false ∧ hO k = false ∧ hTk k = false ∧ hM k = false ∧ hTi k = false) ∨ (k = 7 ∧ hT k = false ∧ hC k = true ∧ hU k = false ∧ hCd k = false ∧ hCn k = false ∧ hO k = true ∧ hTk k = false ∧ hM k = false ∧ hTi k = false) ∨ (k = 8 ∧ hT k = false ∧ hC k = true ∧ hU k = false ∧ hCd k = false ∧ hCn k = false ∧ hO k = false ∧ hTk k = true ∧ hM k = true ∧ hTi k = false) ∨ (k = 9 ∧ hT k = false ∧ hC k = true ∧ hU k = false ∧ hCd k = false ∧ hCn k = false ∧ hO k = false ∧ hTk k = true ∧ hM k = false ∧ hTi k = true) ∨ (k = 10 ∧ hT k = false ∧ hC k = false ∧ hU k = false ∧ hCd k = false ∧ hCn k = false ∧ hO k = false ∧ hTk k = false ∧ hM k = false ∧ hTi k = false) ∨ (k = 11 ∧ hT k = false ∧ hC k = false ∧ hU k = false ∧ hCd k = false ∧ hCn k = false ∧ hO k = false ∧ hTk k = false ∧ hM k = false ∧ hTi k = false) := by
  rcases kind_or h with rfl | rfl | rfl | rfl | rfl | rfl | rfl | rfl | rfl | rfl | rfl
  · exact .inl ⟨rfl, rfl, rfl, rfl, rfl, rfl, rfl, rfl, rfl, rfl⟩
  · exact .inr (.inl ⟨rfl, rfl, rfl, rfl, rfl, rfl, rfl, rfl, rfl, rfl⟩)
  · exact .inr (.inr (.inl ⟨rfl, rfl, rfl, rfl, rfl, rfl, rfl, rfl, rfl, rfl⟩))
  · exact .inr (.inr (.inr (.inl ⟨rfl, rfl, rfl, rfl, rfl, rfl, rfl, rfl, rfl, rfl⟩)))
  · exact .inr (.inr (.inr (.inr (.inl ⟨rfl, rfl, rfl, rfl, rfl, rfl, rfl, rfl, rfl, rfl⟩))))
  · exact .inr (.inr (.inr (.inr (.inr (.inl ⟨rfl, rfl, rfl, rfl, rfl, rfl, rfl, rfl, rfl, rfl⟩)))))
  · exact .inr (.inr (.inr (.inr (.inr (.inr (.inl ⟨rfl, rfl, rfl, rfl, rfl, rfl, rfl, rfl, rfl, rfl⟩))))))
  · exact .inr (.inr (.inr (.inr (.inr (.inr (.inr (.inl ⟨rfl, rfl, rfl, rfl, rfl, rfl, rfl, rfl, rfl, rfl⟩)))))))
  · exact .inr (.inr (.inr (.inr (.inr (.inr (.inr (.inr (.inl ⟨rfl, rfl, rfl, rfl, rfl, rfl, rfl, rfl, rfl, rfl⟩))))))))
  · exact .inr (.inr (.inr (.inr (.inr (.inr (.inr (.inr (.inr (.inl ⟨rfl, rfl, rfl, rfl, rfl, rfl, rfl, rfl, rfl, rfl⟩)))))))))
  · exact .inr (.inr (.inr (.inr (.inr (.inr (.inr (.inr (.inr (.inr (⟨rfl, rfl, rfl, rfl, rfl, rfl, rfl, rfl, rfl, rfl⟩))))))))))
theorem out_parts (q : Rq) : outB q = ((hO q.k && (decide (q.ops.length < 1) || decide (8 < q.ops.length))) || decide (q.tok < 0) || (hM q.k && (decide (q.most < 1) || decide (1000 < q.most))) || decide (q.ticks < 0) || decide (1048576 < q.ticks)) := rfl

set_option maxRecDepth 100000 in
set_option maxHeartbeats 16000000 in
theorem rcheck_in (q : Rq) (A : Option Addr) (c : Nat) (w : World) (hk : isK q.k = true) (hr : Rds w A q.ops.length 5 (opsE q.ops)) (hs : RqS q) :
    Calls Tryz.prog 20 #[reqV q A c] w fun e w' => e = .returned (.int .i64 (chk q)) ∧ Below w.heap.size w w' := by
  have hka := kind_all hk
  have hcd := shapeC hk
  have hsh : (hT q.k = true ∧ hC q.k = false ∧ hU q.k = false) ∨ (hT q.k = false ∧ hC q.k = true ∧ hU q.k = false) ∨ (hT q.k = false ∧ hC q.k = true ∧ hU q.k = true) ∨ (hT q.k = false ∧ hC q.k = false ∧ hU q.k = false) := by
    rcases kind_or hk with h | h | h | h | h | h | h | h | h | h | h <;> rw [h] <;> decide
  have C1 := fun W => rname_calls (bs q.tn) (by rw [bs_size]; have := hs.tn; omega) W
  have C2 := fun W => rname_calls (bs q.col) (by rw [bs_size]; have := hs.col; omega) W
  have C3 := fun W => ruid_calls (bs q.uid) (by rw [bs_size]; have := hs.uid; omega) W
  have C4 := hd (fun o (ho : o ∈ q.ops) W => ruid_calls (bs o.uid) (by rw [bs_size]; have := (hs.op o ho).1; omega) W)
  have C5 := fun W (_ : Below w.heap.size w W) => rcis_calls (bs q.card) (by rw [bs_size]; exact hs.card) W
  have C6 := fun W => crmay_calls W q.ck q.cv
  have C7 := hd (fun o (ho : o ∈ q.ops) W => rcis_calls (bs o.card) (by rw [bs_size]; exact (hs.op o ho).2) W)
  rw [bs_data] at C1 C2 C3 C5
  have HV1 := hd (fun h => chk_s hk h)
  have HV2 := hd (fun h h2 => chk_n hk h h2)
  have HV3 := hd (fun h h2 h3 => chk_f hk h h2 h3)
  have HV4 := hd (fun h h2 h3 => chk_o hk h h2 h3)
  have sab := str_parts q
  have snb := nam_parts q
  have sfb := for_parts q
  have hob := out_parts q
  have hnm := hs.ops
  unfold reqV reqE
  generalize chk q = X0 at *
  generalize strayB q = x1 at *
  generalize namedB q = x2 at *
  generalize formedB q = x3 at *
  generalize outB q = x4 at *
  obtain ⟨k, tn, col, uid, card, ck, cv, ops, tok, most, ticks⟩ := q
  simp only at *
  generalize hT k = h1 at *
  generalize hC k = h2 at *
  generalize hU k = h3 at *
  generalize hCd k = h4 at *
  generalize hCn k = h5 at *
  generalize hO k = h6 at *
  generalize hTk k = h7 at *
  generalize hM k = h8 at *
  generalize hTi k = h9 at *
  change ∀ W, Below w.heap.size w W → Calls Tryz.prog 71 #[.string (bs card)] W fun e w' => e = .returned (.bool (isB card)) ∧ Below W.heap.size W w' at C5
  generalize nameB tn = n1 at *
  generalize nameB col = n2 at *
  generalize uidB uid = n3 at *
  generalize isB card = i4 at *
  generalize mayP ck cv = m5 at *
  obtain ⟨sa, hA⟩ : ∃ sa, strA h1 h2 h3 h4 h5 tn col uid card ck cv = sa := ⟨_, rfl⟩
  obtain ⟨sB, hB⟩ : ∃ sB, strB h6 h7 h8 h9 ops tok most ticks = sB := ⟨_, rfl⟩
  obtain ⟨na, hna⟩ : ∃ na, namA h1 h2 h3 n1 n2 n3 = na := ⟨_, rfl⟩
  obtain ⟨fa, hfa⟩ : ∃ fa, forA h4 h5 i4 m5 = fa := ⟨_, rfl⟩
  have FA := hd (SA.mk_ hA)
  have FZ := SZ.mk_ hB
  rw [hA, hB] at sab
  rw [hna] at snb
  rw [hfa] at sfb
  have SAB := hd (show x1 = ((sa || sB) || strC ops) by rw [sab, Bool.or_assoc])
  have SNB := hd snb
  have SFB := hd sfb
  have HNA := hd hna
  have HFA := hd hfa
  have HKA := hd hka
  have HCD := hd hcd
  have HSH := hd hsh
  replace C1 := hd C1
  replace C2 := hd C2
  replace C3 := hd C3
  replace C5 := hd C5
  replace C6 := hd C6
  obtain ⟨n, hn⟩ : ∃ n, ops.length = n := ⟨_, rfl⟩
  have HN := hd hn
  rw [hn] at hr hnm hob FZ ⊢
  replace FZ := hd FZ
  have HOB := hd hob
  have HR := hd hr
  have hk1 : 1 ≤ k ∧ k ≤ 11 := by unfold isK at hk; simpa using hk
  have hk1a : decide (k < 1) = false := by simp; omega
  have hk1b : decide ((11 : Int) < k) = false := by simp; omega
  clear hA hB hn hr hs hka hcd hsh sab snb sfb hna hfa hob hk
  obtain ⟨X, hX⟩ : ∃ X, X = w.alloc (.cells #[.int .i64 k, .string (bs tn), .string (bs col), .string (bs uid), .string (bs card), .int .i64 ck, .int .i64 cv, .slice A n c, .int .i64 tok, .int .i64 most, .int .i64 ticks] 26) := ⟨_, rfl⟩
  have q1 : Blk X w.heap.size 26 #[.int .i64 k, .string (bs tn), .string (bs col), .string (bs uid), .string (bs card), .int .i64 ck, .int .i64 cv, .slice A n c, .int .i64 tok, .int .i64 most, .int .i64 ticks] := by rw [hX]; exact Blk.new _ _ _
  have HBX := hd (show Below w.heap.size w X by rw [hX]; exact (Below.refl _ w).alloc (Nat.le_refl _) _)
  have r0 := q1.at_ 0 rfl
  have r1 := q1.at_ 1 rfl
  have r2 := q1.at_ 2 rfl
  have r3 := q1.at_ 3 rfl
  have r4 := q1.at_ 4 rfl
  have r5 := q1.at_ 5 rfl
  have r6 := q1.at_ 6 rfl
  have r7 := q1.at_ 7 rfl
  have r8 := q1.at_ 8 rfl
  have r9 := q1.at_ 9 rfl
  have r10 := q1.at_ 10 rfl
  have r8' := r8
  have Q1 := hd q1
  have hl1 := q1.lt
  have HX := hd hX
  clear q1 hX
  go_enter Tryz.func20, Tryz.ntmps20
  go_upto_region 1 with (fail)
  rw [← HX.o]
  go_upto_region 4 with (fail)
  go_cut [0, 4, 5] from 22 to 33 (fun _ s4 s5 wx => s4 = .bool h1 ∧ s5 = .bool h2 ∧ wx = X)
  case first =>
    rcases HKA.o with ⟨rfl, rfl, rfl, rfl, rfl, rfl, rfl, rfl, rfl, rfl⟩ | ⟨rfl, rfl, rfl, rfl, rfl, rfl, rfl, rfl, rfl, rfl⟩ | ⟨rfl, rfl, rfl, rfl, rfl, rfl, rfl, rfl, rfl, rfl⟩ | ⟨rfl, rfl, rfl, rfl, rfl, rfl, rfl, rfl, rfl, rfl⟩ | ⟨rfl, rfl, rfl, rfl, rfl, rfl, rfl, rfl, rfl, rfl⟩ | ⟨rfl, rfl, rfl, rfl, rfl, rfl, rfl, rfl, rfl, rfl⟩ | ⟨rfl, rfl, rfl, rfl, rfl, rfl, rfl, rfl, rfl, rfl⟩ | ⟨rfl, rfl, rfl, rfl, rfl, rfl, rfl, rfl, rfl, rfl⟩ | ⟨rfl, rfl, rfl, rfl, rfl, rfl, rfl, rfl, rfl, rfl⟩ | ⟨rfl, rfl, rfl, rfl, rfl, rfl, rfl, rfl, rfl, rfl⟩ | ⟨rfl, rfl, rfl, rfl, rfl, rfl, rfl, rfl, rfl, rfl⟩
    all_goals
      go_wp2_with fail
      go_meet
      exact ⟨rfl, rfl, rfl⟩
  case rest =>
  obtain ⟨rfl, rfl, hwc⟩ := hcut
  subst hwc
  go_upto_region 5 with (fail)
  go_cut [6, 7, 8] from 34 to 51 (fun s6 s7 s8 wx => s6 = .bool h3 ∧ s7 = .bool h4 ∧ s8 = .bool h5 ∧ wx = wc)
  case first =>
    rcases HKA.o with ⟨rfl, rfl, rfl, rfl, rfl, rfl, rfl, rfl, rfl, rfl⟩ | ⟨rfl, rfl, rfl, rfl, rfl, rfl, rfl, rfl, rfl, rfl⟩ | ⟨rfl, rfl, rfl, rfl, rfl, rfl, rfl, rfl, rfl, rfl⟩ | ⟨rfl, rfl, rfl, rfl, rfl, rfl, rfl, rfl, rfl, rfl⟩ | ⟨rfl, rfl, rfl, rfl, rfl, rfl, rfl, rfl, rfl, rfl⟩ | ⟨rfl, rfl, rfl, rfl, rfl, rfl, rfl, rfl, rfl, rfl⟩ | ⟨rfl, rfl, rfl, rfl, rfl, rfl, rfl, rfl, rfl, rfl⟩ | ⟨rfl, rfl, rfl, rfl, rfl, rfl, rfl, rfl, rfl, rfl⟩ | ⟨rfl, rfl, rfl, rfl, rfl, rfl, rfl, rfl, rfl, rfl⟩ | ⟨rfl, rfl, rfl, rfl, rfl, rfl, rfl, rfl, rfl, rfl⟩ | ⟨rfl, rfl, rfl, rfl, rfl, rfl, rfl, rfl, rfl, rfl⟩
    all_goals
      go_wp2_with fail
      go_meet
      exact ⟨rfl, rfl, rfl, rfl⟩
  case rest =>
  obtain ⟨rfl, rfl, rfl, hwd⟩ := hcut
  obtain rfl := hwd
  go_upto_region 6 with (fail)
  go_cut [9] from 52 to 57 (fun s9 wx => s9 = .bool h7 ∧ wx = wc)
  case first =>
    rcases HKA.o with ⟨rfl, rfl, rfl, rfl, rfl, rfl, rfl, rfl, rfl, rfl⟩ | ⟨rfl, rfl, rfl, rfl, rfl, rfl, rfl, rfl, rfl, rfl⟩ | ⟨rfl, rfl, rfl, rfl, rfl, rfl, rfl, rfl, rfl, rfl⟩ | ⟨rfl, rfl, rfl, rfl, rfl, rfl, rfl, rfl, rfl, rfl⟩ | ⟨rfl, rfl, rfl, rfl, rfl, rfl, rfl, rfl, rfl, rfl⟩ | ⟨rfl, rfl, rfl, rfl, rfl, rfl, rfl, rfl, rfl, rfl⟩ | ⟨rfl, rfl, rfl, rfl, rfl, rfl, rfl, rfl, rfl, rfl⟩ | ⟨rfl, rfl, rfl, rfl, rfl, rfl, rfl, rfl, rfl, rfl⟩ | ⟨rfl, rfl, rfl, rfl, rfl, rfl, rfl, rfl, rfl, rfl⟩ | ⟨rfl, rfl, rfl, rfl, rfl, rfl, rfl, rfl, rfl, rfl⟩ | ⟨rfl, rfl, rfl, rfl, rfl, rfl, rfl, rfl, rfl, rfl⟩
    all_goals
      go_wp2_with fail
      go_meet
      exact ⟨rfl, rfl⟩
  case rest =>
  obtain ⟨rfl, hwd⟩ := hcut
  obtain rfl := hwd
  go_upto_region 7 with (fail)
  simp only [List.append_eq, List.cons_append, List.nil_append]
  go_cut [138] from 58 to 138 (fun s138 wx => s138 = .bool (sa || sB) ∧ wx = wc)
  case first =>
    rcases HKA.o with ⟨rfl, rfl, rfl, rfl, rfl, rfl, rfl, rfl, rfl, rfl⟩ | ⟨rfl, rfl, rfl, rfl, rfl, rfl, rfl, rfl, rfl, rfl⟩ | ⟨rfl, rfl, rfl, rfl, rfl, rfl, rfl, rfl, rfl, rfl⟩ | ⟨rfl, rfl, rfl, rfl, rfl, rfl, rfl, rfl, rfl, rfl⟩ | ⟨rfl, rfl, rfl, rfl, rfl, rfl, rfl, rfl, rfl, rfl⟩ | ⟨rfl, rfl, rfl, rfl, rfl, rfl, rfl, rfl, rfl, rfl⟩ | ⟨rfl, rfl, rfl, rfl, rfl, rfl, rfl, rfl, rfl, rfl⟩ | ⟨rfl, rfl, rfl, rfl, rfl, rfl, rfl, rfl, rfl, rfl⟩ | ⟨rfl, rfl, rfl, rfl, rfl, rfl, rfl, rfl, rfl, rfl⟩ | ⟨rfl, rfl, rfl, rfl, rfl, rfl, rfl, rfl, rfl, rfl⟩ | ⟨rfl, rfl, rfl, rfl, rfl, rfl, rfl, rfl, rfl, rfl⟩
    all_goals as_aux_lemma =>
      go_wp2_with fail
      all_goals
        go_meet
        first
          | exact ⟨vb (by rw [FA.o.a1 rfl (by assumption)]; rfl), rfl⟩
          | exact ⟨vb (by rw [FA.o.a2 rfl (by assumption)]; rfl), rfl⟩
          | exact ⟨vb (by rw [FA.o.a3 rfl (by assumption)]; rfl), rfl⟩
          | exact ⟨vb (by rw [FA.o.a4 rfl (by assumption)]; rfl), rfl⟩
          | exact ⟨vb (by rw [FA.o.a5 rfl (by assumption)]; rfl), rfl⟩
          | exact ⟨vb (by rw [FA.o.a6 rfl (by assumption)]; rfl), rfl⟩
          | exact ⟨vb (by rw [FZ.o.z1 rfl (by first | assumption | omega), Bool.or_true]), rfl⟩
          | exact ⟨vb (by rw [FZ.o.z2 rfl (by assumption), Bool.or_true]), rfl⟩
          | exact ⟨vb (by rw [FZ.o.z3 rfl (by assumption), Bool.or_true]), rfl⟩
          | exact ⟨vb (by rw [FZ.o.z4 rfl (by assumption), Bool.or_true]), rfl⟩
          | exact ⟨vb (by rw [FA.o.a0 (fun h => by first | assumption | cases h) (fun h => by first | assumption | cases h) (fun h => by first | assumption | cases h) (fun h => by first | assumption | cases h) (fun h => by first | exact ⟨by first | assumption | rfl, by first | assumption | rfl⟩ | cases h), FZ.o.zt (fun h => by first | assumption | omega | cases h) (fun h => by first | assumption | rfl | cases h) (fun h => by first | assumption | rfl | cases h) rfl]; rfl), rfl⟩
          | exact ⟨vb (by rw [FA.o.a0 (fun h => by first | assumption | cases h) (fun h => by first | assumption | cases h) (fun h => by first | assumption | cases h) (fun h => by first | assumption | cases h) (fun h => by first | exact ⟨by first | assumption | rfl, by first | assumption | rfl⟩ | cases h), FZ.o.z0 (fun h => by first | assumption | omega | cases h) (fun h => by first | assumption | rfl | cases h) (fun h => by first | assumption | rfl | cases h) (fun h => by first | assumption | cases h)]; rfl), rfl⟩
  case rest =>
  obtain ⟨rfl, hwd⟩ := hcut
  obtain rfl := hwd
  cases hab : (sa || sB) with
  | true =>
    have HV := hd (HV1.o (by rw [SAB.o, hab]; rfl))
    clear hab
    go_wp2
    go_ret
    exact ⟨ret_int HV.o.symm, HBX.o⟩
  | false =>
  have HS2 := hd (show strC ops = x1 by rw [SAB.o, hab]; rfl)
  clear hab FA FZ r8
  go_wp2_with fail
  go_loop [10, 2] (fun i e => ∃ k' : Nat, i = .int .i64 k' ∧ e = .int .i64 0 ∧ k' ≤ n ∧ Hd (strC (ops.take k') = false)) (fun i _ => n - (intOf i).toNat)
  case atStart => exact ⟨0, rfl, rfl, Nat.zero_le _, hd rfl⟩
  case round =>
    obtain ⟨k', rfl, rfl, hk, HV⟩ := hrel
    have hki : (0 : Int) ≤ (k' : Int) := by omega
    by_cases hlt : k' < n
    · have HB := HBX
      have hlti : (k' : Int) < (n : Int) := by omega
      have hkl : k' < ops.length := by rw [HN.o]; exact hlt
      obtain ⟨g, o, rfl, hg, hc⟩ := HR.o.at_ (by omega)
      obtain ⟨x, hx⟩ : ∃ x, ops[k']'hkl = x := ⟨_, rfl⟩
      have HT : Hd (ops.take (k' + 1) = ops.take k' ++ [x]) := hd (by rw [List.take_succ_eq_append_getElem hkl, hx])
      have hmem : x ∈ ops := by rw [← hx]; exact List.getElem_mem hkl
      have HMEM := hd hmem
      have hcell : ∀ j u, j < 5 → (opEnc x)[j]? = some u → wc.cell? ⟨g, o + (k' * 5 + j), none⟩ = some u := fun j u hj hv => (HB.o.cell (p := ⟨g, o + (k' * 5 + j), none⟩) hg).trans (hc _ _ ((opsE_at ops k' hkl j hj).trans (by rw [hx]; exact hv)))
      obtain ⟨xd, xu, xc, xk, xv⟩ := x
      have k0 := hcell 0 _ (by omega) rfl
      have k1 := hcell 1 _ (by omega) rfl
      have k2 := hcell 2 _ (by omega) rfl
      have k3 := hcell 3 _ (by omega) rfl
      have k4 := hcell 4 _ (by omega) rfl
      rw [← Nat.add_assoc] at k0 k1 k2 k3 k4
      rw [Nat.add_zero] at k0
      have HBAD := hd (show (xd && decide (xc ≠ [])) = true → x1 = true from fun h => by
        rw [← HS2.o, strC]
        exact List.any_eq_true.2 ⟨_, HMEM.o, h⟩)
      have HGO := hd (show (xd && decide (xc ≠ [])) = false → strC (ops.take (k' + 1)) = false from fun h => by
        have := HV.o
        unfold strC at *
        rw [HT.o, List.any_append, this]
        simpa using h)
      clear hcell hc hx hkl hmem
      cases xd with
      | false =>
        have HG := hd (HGO.o rfl)
        go_wp2
        go_round
        case rel => exact ⟨k' + 1, by go_num, rfl, by omega, HG⟩
        case measure => simp [intOf]; omega
      | true =>
        by_cases hcc : (bs xc).toList = []
        · have HG := hd (HGO.o (by rw [bs_toL] at hcc; rw [hcc]; rfl))
          have hcc1 : (!(bs xc).toList.isEmpty) = false := by simpa using hcc
          have hcc3 : (bs xc).toList.isEmpty = true := by simpa using hcc
          go_wp2
          exact ⟨⟨k' + 1, by go_num, rfl, by omega, HG⟩, by simp [intOf]; omega⟩
        · have HG := hd (HV1.o (HBAD.o (by rw [bs_toL] at hcc; simpa using hcc)))
          have hcc1 : (!(bs xc).toList.isEmpty) = true := by simpa using hcc
          have hcc2 : ((bs xc).toList != []) = true := by simpa using hcc
          have hcc3 : (bs xc).toList.isEmpty = false := by simpa using hcc
          go_wp2
          go_ret
          exact ⟨ret_int HG.o.symm, HBX.o⟩
    · obtain rfl : k' = n := by omega
      have HE : Hd (x1 = false) := hd (by
        rw [← HS2.o, ← HV.o, List.take_of_length_le (by rw [HN.o]; exact Nat.le_refl _)])
      clear HS2 HV
      obtain ⟨n, rfl⟩ : ∃ n, n = k' := ⟨_, rfl⟩
      go_upto_region 14 with (fail)
      go_cut [10, 185] from 139 to 185 (fun _ s185 wx => s185 = .bool (!na) ∧ wx = wc)
      case first =>
        have hsh : (h1 = true ∧ h2 = false ∧ h3 = false) ∨ (h1 = false ∧ h2 = true ∧ h3 = false) ∨ (h1 = false ∧ h2 = true ∧ h3 = true) ∨ (h1 = false ∧ h2 = false ∧ h3 = false) := HSH.o
        rcases hsh with ⟨rfl, rfl, rfl⟩ | ⟨rfl, rfl, rfl⟩ | ⟨rfl, rfl, rfl⟩ | ⟨rfl, rfl, rfl⟩ <;> cases n1 <;> cases n2 <;> cases n3
        all_goals as_aux_lemma =>
          obtain rfl := HNA.o
          go_wp2_with (first | (go_at_call 69; (with_reducible refine (C1.o _).mono ?_); rintro e w' ⟨rfl, rfl⟩) | (go_at_call 69; (with_reducible refine (C2.o _).mono ?_); rintro e w' ⟨rfl, rfl⟩) | (go_at_call 70; (with_reducible refine (C3.o _).mono ?_); rintro e w' ⟨rfl, rfl⟩))
          go_meet
          exact ⟨rfl, rfl⟩
      case rest =>
      obtain ⟨rfl, hwd⟩ := hcut
      obtain rfl := hwd
      cases na with
      | false =>
        have HV := hd (HV2.o HE.o (by rw [SNB.o]; rfl))
        go_wp2
        go_ret
        exact ⟨ret_int HV.o.symm, HBX.o⟩
      | true =>
      have HS2 := hd (show namC ops = x2 by rw [SNB.o]; rfl)
      clear C1 C2 C3 HNA r1 r2 r3
      go_wp2_with fail
      go_loop [11, 2] (fun i e => ∃ k' : Nat, i = .int .i64 k' ∧ e = .int .i64 0 ∧ k' ≤ n ∧ Hd (namC (ops.take k') = true)) (fun i _ => n - (intOf i).toNat)
      case atStart => exact ⟨0, rfl, rfl, Nat.zero_le _, hd rfl⟩
      case round =>
        obtain ⟨k', rfl, rfl, hk, HV⟩ := hrel
        have hki : (0 : Int) ≤ (k' : Int) := by omega
        by_cases hlt : k' < n
        · have HB := HBX
          have hlti : (k' : Int) < (n : Int) := by omega
          have hkl : k' < ops.length := by rw [HN.o]; exact hlt
          obtain ⟨g, o, rfl, hg, hc⟩ := HR.o.at_ (by omega)
          obtain ⟨x, hx⟩ : ∃ x, ops[k']'hkl = x := ⟨_, rfl⟩
          have HT : Hd (ops.take (k' + 1) = ops.take k' ++ [x]) := hd (by rw [List.take_succ_eq_append_getElem hkl, hx])
          have hmem : x ∈ ops := by rw [← hx]; exact List.getElem_mem hkl
          have HMEM := hd hmem
          have hcell : ∀ j u, j < 5 → (opEnc x)[j]? = some u → wc.cell? ⟨g, o + (k' * 5 + j), none⟩ = some u := fun j u hj hv => (HB.o.cell (p := ⟨g, o + (k' * 5 + j), none⟩) hg).trans (hc _ _ ((opsE_at ops k' hkl j hj).trans (by rw [hx]; exact hv)))
          have K4 := C4.o x hmem
          rw [bs_data] at K4
          obtain ⟨xd, xu, xc, xk, xv⟩ := x
          have k0 := hcell 0 _ (by omega) rfl
          have k1 := hcell 1 _ (by omega) rfl
          have k2 := hcell 2 _ (by omega) rfl
          have k3 := hcell 3 _ (by omega) rfl
          have k4 := hcell 4 _ (by omega) rfl
          rw [← Nat.add_assoc] at k0 k1 k2 k3 k4
          rw [Nat.add_zero] at k0
          have HBAD := hd (show uidB xu = false → x2 = false from fun h => by
            rw [← HS2.o, namC]
            exact List.all_eq_false.2 ⟨_, HMEM.o, by simp [h]⟩)
          have HGO := hd (show uidB xu = true → namC (ops.take (k' + 1)) = true from fun h => by
            have := HV.o
            unfold namC at *
            rw [HT.o, List.all_append, this]
            simpa using h)
          simp only at K4
          generalize uidB xu = ub at *
          replace K4 := hd K4
          clear hcell hc hx hkl hmem
          cases ub with
          | true =>
            have HG := hd (HGO.o (by first | rfl | trivial))
            go_wp2_with (go_at_call 70; refine (K4.o _).mono ?_; rintro e w' ⟨rfl, rfl⟩)
            first
              | exact ⟨⟨k' + 1, by go_num, rfl, by omega, HG⟩, by simp [intOf]; omega⟩
              | (go_round
                 case rel => exact ⟨k' + 1, by go_num, rfl, by omega, HG⟩
                 case measure => simp [intOf]; omega)
              | (go_round
                 case rel => ((repeat apply Exists.intro); exact ⟨⟨k' + 1, by go_num, rfl, by omega, HG⟩, rfl⟩)
                 case measure => simp [intOf]; omega)
          | false =>
            have HG := hd (HV2.o HE.o (HBAD.o (by first | rfl | trivial)))
            go_wp2_with (go_at_call 70; refine (K4.o _).mono ?_; rintro e w' ⟨rfl, rfl⟩)
            go_ret
            exact ⟨ret_int HG.o.symm, HBX.o⟩
        · obtain rfl : k' = n := by omega
          have HE2 : Hd (x2 = true) := hd (by
            rw [← HS2.o, ← HV.o, List.take_of_length_le (by rw [HN.o]; exact Nat.le_refl _)])
          clear HS2 HV C4
          obtain ⟨n, rfl⟩ : ∃ n, n = k' := ⟨_, rfl⟩
          obtain ⟨wy, rfl⟩ : ∃ wy : World, wy = wc := ⟨_, rfl⟩
          go_upto_region 21 with (fail)
          go_cut [11, 216] from 186 to 216 (fun _ s216 wx => s216 = .bool (!fa) ∧ Hd (Below wy.heap.size wy wx))
          case first =>
            have hcd : (h4 = true ∧ h5 = true) ∨ (h4 = false ∧ h5 = true) ∨ (h4 = false ∧ h5 = false) := HCD.o
            rcases hcd with ⟨rfl, rfl⟩ | ⟨rfl, rfl⟩ | ⟨rfl, rfl⟩
            · go_wp2_with fail
              refine (C5.o _ HBX.o).mono ?_
              rintro e w1 ⟨rfl, hb1⟩
              have HB1 := hd hb1
              cases i4 with
              | false =>
                have HF := hd (HFA.o)
                clear hb1
                go_wp2_with fail
                go_meet
                exact ⟨by rw [← HF.o]; cases m5 <;> rfl, HB1⟩
              | true =>
                have r5' := (Q1.o.below hb1 hl1).at_ 5 rfl
                have r6' := (Q1.o.below hb1 hl1).at_ 6 rfl
                clear hb1 r5 r6
                go_wp2_with fail
                refine (C6.o _).mono ?_
                rintro e w2 ⟨rfl, hb2⟩
                have HB2 := hd (HB1.o.trans (hb2.mono HB1.o.size))
                clear hb2
                go_wp2_with fail
                go_meet
                exact ⟨by rw [← HFA.o]; rfl, HB2⟩
            · go_wp2_with fail
              refine (C6.o _).mono ?_
              rintro e w2 ⟨rfl, hb2⟩
              have HB2 := hd hb2
              clear hb2
              go_wp2_with fail
              go_meet
              exact ⟨by rw [← HFA.o]; rfl, HB2⟩
            · go_wp2_with fail
              go_meet
              exact ⟨by rw [← HFA.o]; rfl, hd (Below.refl _ _)⟩
          case rest =>
          obtain ⟨rfl, HBW⟩ := hcut
          clear r4 r5 r6 r7 r9 r10 r8'
          have hq := Q1.o.below HBW.o hl1
          have r7 := hq.at_ 7 rfl
          have HBX2 := hd (HBX.o.trans (HBW.o.mono HBX.o.size))
          cases fa with
          | false =>
            have HV := hd (HV3.o HE.o HE2.o (by rw [SFB.o]; rfl))
            clear hq
            go_wp2
            go_ret
            exact ⟨ret_int HV.o.symm, HBX2.o⟩
          | true =>
          have HS2 := hd (show forC ops = x3 by rw [SFB.o]; rfl)
          have Q2 := hd hq
          have hl2 := hq.lt
          clear C5 C6 HFA hq r7
          go_wp2_with fail
          go_loopw [12, 13, 2] (fun i _ e wr => ∃ k' : Nat, i = .int .i64 k' ∧ e = .int .i64 0 ∧ k' ≤ n ∧ Hd (forC (ops.take k') = true) ∧ Hd (Below w.heap.size w wr) ∧ Hd (Below wc.heap.size wc wr)) (fun i _ _ _ => n - (intOf i).toNat)
          case atStart => exact ⟨0, rfl, rfl, Nat.zero_le _, hd rfl, HBX2, hd (Below.refl _ _)⟩
          case round =>
            obtain ⟨k', rfl, rfl, hk, HV, HB, HBC⟩ := hrel
            have hki : (0 : Int) ≤ (k' : Int) := by omega
            have qr := Q2.o.below HBC.o hl2
            have r7 := qr.at_ 7 rfl
            have r8 := qr.at_ 8 rfl
            have r9 := qr.at_ 9 rfl
            have r10 := qr.at_ 10 rfl
            have hlr := qr.lt
            clear qr
            by_cases hlt : k' < n
            · clear r8 r9 r10
              have hlti : (k' : Int) < (n : Int) := by omega
              have hkl : k' < ops.length := by rw [HN.o]; exact hlt
              obtain ⟨g, o, rfl, hg, hc⟩ := HR.o.at_ (by omega)
              obtain ⟨x, hx⟩ : ∃ x, ops[k']'hkl = x := ⟨_, rfl⟩
              have HT : Hd (ops.take (k' + 1) = ops.take k' ++ [x]) := hd (by rw [List.take_succ_eq_append_getElem hkl, hx])
              have hmem : x ∈ ops := by rw [← hx]; exact List.getElem_mem hkl
              have HMEM := hd hmem
              have hcell : ∀ j u, j < 5 → (opEnc x)[j]? = some u → wr.cell? ⟨g, o + (k' * 5 + j), none⟩ = some u := fun j u hj hv => (HB.o.cell (p := ⟨g, o + (k' * 5 + j), none⟩) hg).trans (hc _ _ ((opsE_at ops k' hkl j hj).trans (by rw [hx]; exact hv)))
              obtain ⟨xd, xu, xc, xk, xv⟩ := x
              have k0 := hcell 0 _ (by omega) rfl
              have k1 := hcell 1 _ (by omega) rfl
              have k2 := hcell 2 _ (by omega) rfl
              have k3 := hcell 3 _ (by omega) rfl
              have k4 := hcell 4 _ (by omega) rfl
              rw [← Nat.add_assoc] at k0 k1 k2 k3 k4
              rw [Nat.add_zero] at k0
              have HA := hd (HB.o.alloc HB.o.size (.cells #[.bool xd, .string (bs xu), .string (bs xc), .int .i64 xk, .int .i64 xv] 43))
              have HAC := hd (HBC.o.alloc HBC.o.size (.cells #[.bool xd, .string (bs xu), .string (bs xc), .int .i64 xk, .int .i64 xv] 43))
              have HBK := hd (Blk.new wr 43 #[.bool xd, .string (bs xu), .string (bs xc), .int .i64 xk, .int .i64 xv])
              have K4 := C7.o _ hmem (wr.alloc (.cells #[.bool xd, .string (bs xu), .string (bs xc), .int .i64 xk, .int .i64 xv] 43))
              rw [bs_data] at K4
              have HBAD := hd (show forO ⟨xd, xu, xc, xk, xv⟩ = false → x3 = false from fun h => by
                rw [← HS2.o, forC]
                exact List.all_eq_false.2 ⟨_, HMEM.o, by simp [h]⟩)
              have HGO := hd (show forO ⟨xd, xu, xc, xk, xv⟩ = true → forC (ops.take (k' + 1)) = true from fun h => by
                have := HV.o
                unfold forC at *
                rw [HT.o, List.all_append, this]
                simpa using h)
              unfold forO at HBAD HGO
              simp only at HBAD HGO
              change Calls Tryz.prog 71 #[.string (bs xc)] (wr.alloc (.cells #[.bool xd, .string (bs xu), .string (bs xc), .int .i64 xk, .int .i64 xv] 43)) fun e w' => e = .returned (.bool (isB xc)) ∧ Below (wr.alloc (.cells #[.bool xd, .string (bs xu), .string (bs xc), .int .i64 xk, .int .i64 xv] 43)).heap.size (wr.alloc (.cells #[.bool xd, .string (bs xu), .string (bs xc), .int .i64 xk, .int .i64 xv] 43)) w' at K4
              generalize isB xc = ib at *
              have K5 := fun W => crmay_calls W xk xv
              generalize mayP xk xv = mb at *
              replace K4 := hd K4
              replace K5 := hd K5
              clear hcell hc hx hkl hmem
              cases xd with
              | true =>
                cases mb with
                | true =>
                  have HG := hd (HGO.o rfl)
                  go_wp2_with fail
                  refine (K5.o _).mono ?_
                  rintro e w2 ⟨rfl, hb2⟩
                  have HB2 := hd (HA.o.trans (hb2.mono HA.o.size))
                  have HB3 := hd (HAC.o.trans (hb2.mono HAC.o.size))
                  clear hb2
                  go_wp2
                  first
                    | exact ⟨⟨k' + 1, by go_num, rfl, by omega, HG, HB2, HB3⟩, by simp [intOf]; omega⟩
                    | (go_roundw
                       case rel => exact ⟨k' + 1, by go_num, rfl, by omega, HG, HB2, HB3⟩
                       case measure => simp [intOf]; omega)
                    | (go_roundw
                       case rel => ((repeat apply Exists.intro); exact ⟨⟨k' + 1, by go_num, rfl, by omega, HG, HB2, HB3⟩, rfl⟩)
                       case measure => simp [intOf]; omega)
                | false =>
                  have HG := hd (HV3.o HE.o HE2.o (HBAD.o rfl))
                  go_wp2_with fail
                  refine (K5.o _).mono ?_
                  rintro e w2 ⟨rfl, hb2⟩
                  have HB2 := hd (HA.o.trans (hb2.mono HA.o.size))
                  clear hb2
                  go_wp2
                  go_ret
                  exact ⟨ret_int HG.o.symm, HB2.o⟩
              | false =>
                cases ib with
                | false =>
                  have HG := hd (HV3.o HE.o HE2.o (HBAD.o rfl))
                  go_wp2_with fail
                  refine K4.o.mono ?_
                  rintro e w2 ⟨rfl, hb2⟩
                  have HB2 := hd (HA.o.trans (hb2.mono HA.o.size))
                  clear hb2
                  go_wp2
                  go_ret
                  exact ⟨ret_int HG.o.symm, HB2.o⟩
                | true =>
                  go_wp2_with fail
                  refine K4.o.mono ?_
                  rintro e w2 ⟨rfl, hb2⟩
                  have HB2 := hd (HA.o.trans (hb2.mono HA.o.size))
                  have HB3 := hd (HAC.o.trans (hb2.mono HAC.o.size))
                  have hx := HBK.o.below hb2 (by simp)
                  have m3 := hx.at_ 3 rfl
                  have m4 := hx.at_ 4 rfl
                  clear hb2 hx
                  go_wp2_with fail
                  refine (K5.o _).mono ?_
                  rintro e w3 ⟨rfl, hb3⟩
                  have HB4 := hd (HB2.o.trans (hb3.mono HB2.o.size))
                  have HB5 := hd (HB3.o.trans (hb3.mono HB3.o.size))
                  clear hb3
                  cases mb with
                  | true =>
                    have HG := hd (HGO.o rfl)
                    go_wp2
                    first
                      | exact ⟨⟨k' + 1, by go_num, rfl, by omega, HG, HB4, HB5⟩, by simp [intOf]; omega⟩
                      | (go_roundw
                         case rel => exact ⟨k' + 1, by go_num, rfl, by omega, HG, HB4, HB5⟩
                         case measure => simp [intOf]; omega)
                      | (go_roundw
                         case rel => ((repeat apply Exists.intro); exact ⟨⟨k' + 1, by go_num, rfl, by omega, HG, HB4, HB5⟩, rfl⟩)
                         case measure => simp [intOf]; omega)
                  | false =>
                    have HG := hd (HV3.o HE.o HE2.o (HBAD.o rfl))
                    go_wp2
                    go_ret
                    exact ⟨ret_int HG.o.symm, HB4.o⟩
            · obtain rfl : k' = n := by omega
              have HE3 : Hd (x3 = true) := hd (by
                rw [← HS2.o, ← HV.o, List.take_of_length_le (by rw [HN.o]; exact Nat.le_refl _)])
              have HVV := hd (HV4.o HE.o HE2.o HE3.o)
              have HNO := hd (show x4 = true → X0 = 12 from fun h => by rw [HVV.o, if_pos h])
              have HYES := hd (show x4 = false → X0 = 0 from fun h => by rw [HVV.o, if_neg (by rw [h]; decide)])
              have HK9 := HKA.o
              clear HS2 HV C7 HV1 HV2 HV3 HV4 HVV
              have hkk : (((k == 7) = true ∧ (k == 8) = false ∧ h6 = true ∧ h8 = false) ∨ ((k == 7) = false ∧ (k == 8) = true ∧ h6 = false ∧ h8 = true) ∨ ((k == 7) = false ∧ (k == 8) = false ∧ h6 = false ∧ h8 = false)) := by
                rcases HK9 with ⟨rfl, rfl, rfl, rfl, rfl, rfl, rfl, rfl, rfl, rfl⟩ | ⟨rfl, rfl, rfl, rfl, rfl, rfl, rfl, rfl, rfl, rfl⟩ | ⟨rfl, rfl, rfl, rfl, rfl, rfl, rfl, rfl, rfl, rfl⟩ | ⟨rfl, rfl, rfl, rfl, rfl, rfl, rfl, rfl, rfl, rfl⟩ | ⟨rfl, rfl, rfl, rfl, rfl, rfl, rfl, rfl, rfl, rfl⟩ | ⟨rfl, rfl, rfl, rfl, rfl, rfl, rfl, rfl, rfl, rfl⟩ | ⟨rfl, rfl, rfl, rfl, rfl, rfl, rfl, rfl, rfl, rfl⟩ | ⟨rfl, rfl, rfl, rfl, rfl, rfl, rfl, rfl, rfl, rfl⟩ | ⟨rfl, rfl, rfl, rfl, rfl, rfl, rfl, rfl, rfl, rfl⟩ | ⟨rfl, rfl, rfl, rfl, rfl, rfl, rfl, rfl, rfl, rfl⟩ | ⟨rfl, rfl, rfl, rfl, rfl, rfl, rfl, rfl, rfl, rfl⟩ <;> simp
              clear HK9
              rcases hkk with ⟨e7, e8, rfl, rfl⟩ | ⟨e7, e8, rfl, rfl⟩ | ⟨e7, e8, rfl, rfl⟩
              all_goals as_aux_lemma =>
                go_wp2
                all_goals first
                  | (exfalso; omega)
                  | (go_ret; exact ⟨ret_int (HNO.o (by rw [HOB.o]; simp; omega)).symm, HB.o⟩)
                  | (go_ret; exact ⟨ret_int (HYES.o (by rw [HOB.o]; simp; omega)).symm, HB.o⟩)

end Go.Proofs.YtogjokofmfpmgaaGreatDoor
