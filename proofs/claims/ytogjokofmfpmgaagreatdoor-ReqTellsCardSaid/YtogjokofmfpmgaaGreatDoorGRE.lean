/-
  henref10.Num, Text, putCond, bit.
-/
import Derived.Test.YtogjokofmfpmgaaGreatDoorGRC
import Derived.Test.YtogjokofmfpmgaaGreatDoorGRA
import Derived.Test.YtogjokofmfpmgaaGreatDoorGRB
import Derived.Test.YtogjokofmfpmgaaGreatDoorGAL
import Derived.Deep.QuietTactic
import Derived.Laws.BitsLemmas
set_option linter.unusedVariables false
set_option linter.unusedSimpArgs false
namespace Go.Proofs.YtogjokofmfpmgaaGreatDoor
open Go.RowKit

theorem and255 (x : Int) (h0 : 0 ≤ x) (h1 : x ≤ 9223372036854775807) : bits .and .i64 x 255 = x % 256 := by
  obtain ⟨a, rfl⟩ := Int.eq_ofNat_of_zero_le h0
  have key : (BitVec.ofInt 64 (a : Int) &&& BitVec.ofInt 64 255).toNat = a % 256 := by
    rw [BitVec.toNat_and, BitVec.toNat_ofInt, BitVec.toNat_ofInt]
    rw [show ((a : Int) % ((2 ^ 64 : Nat) : Int)).toNat = a by omega, show ((255 : Int) % ((2 ^ 64 : Nat) : Int)).toNat = 2 ^ 8 - 1 by decide]
    rw [Nat.and_two_pow_sub_one_eq_mod]
  show IntKind.i64.wrap ((BitVec.ofInt 64 (a : Int) &&& BitVec.ofInt 64 255).toNat : Nat) = _
  rw [key, IntKind.wrap_i64]
  omega

theorem row_one {w : World} {B : Nat} (hB : B ≤ w.heap.size) (t : TypeId) (v : Value) : Row (w.alloc (.cells #[v] t)) (From B) t 1 (some ⟨w.heap.size, 0, none⟩) 1 1 [v] :=
  Row.of_block (Blk.new _ _ _) hB (Nat.le_refl _) (by decide) rfl rfl rfl
theorem row_zero {w : World} {B : Nat} (hB : B ≤ w.heap.size) (t : TypeId) : Row (w.alloc (.cells #[] t)) (From B) t 1 (some ⟨w.heap.size, 0, none⟩) 0 0 [] :=
  Row.of_block (Blk.new _ _ _) hB (Nat.le_refl _) (Nat.zero_le _) rfl rfl rfl

set_option maxRecDepth 100000 in
set_option maxHeartbeats 4000000 in
theorem rpnum_calls (w : World) (A : Option Addr) (n c : Nat) (l : List UInt8) (m : Int) (hn : n = l.length) (hr : Rds w A n 1 (u8E l)) (hb : n ≤ 1000000) (hm : m ≤ 9223372036854775807) (hm0 : -9223372036854775808 ≤ m) :
    Calls Tryz.prog 49 #[.slice A n c, .int .i64 m] w fun e w' => BytR 5 w (l ++ numB m) e w' := by
  obtain ⟨i0, hi, hz0, hz1, hz2⟩ := info_parts pkInfo
  have HN := hd hn
  have HR := hd (hr.alloc (.cells #[] 5))
  have HB0 := hd (show Below w.heap.size w (w.alloc (.cells #[] 5)) from (Below.refl _ w).alloc (Nat.le_refl _) _)
  have HR0 := hd (row_zero (w := w) (B := w.heap.size) (Nat.le_refl _) 5)
  have tok1 : True := trivial
  clear hn hr
  by_cases h0 : m < 0
  · have HV := hd (show numB m = [] by unfold numB; rw [if_pos h0])
    go_enter Tryz.func49, Tryz.ntmps49
    go_wp2_with (at_builtin; have _t := tok1; refine wpList_append_rowG rfl _ _ 27 rfl (From w.heap.size) 5 i0 (.int .u8 0) 1 1 Tryz.underlying27 hi hz0 hz1 hz2 rfl _ 0 0 [] rfl HR0.o A n c (u8E l) rfl HR.o (u8E_one _) (by unfold maxLen; omega) (by omega) ?_; intro A2 c2 w2 hown hchg; have HR2 := hd (show Row w2 (From w.heap.size) 5 1 A2 n c2 (u8E l) by simpa using hown.mono (fun q hq => hq.elim id (fun hq => Nat.le_trans HB0.o.size hq))); have HB2 := hd (HB0.o.trans (hchg.below (fun _ h => h) HB0.o.size)); have hs2 := HB2.o.size; clear hown hchg HR0 tok1 _t; simp only [Nat.zero_add])
    go_ret
    exact ⟨⟨A2, n, c2, rfl, by rw [HV.o, List.append_nil]; exact HN.o, by rw [HV.o, List.append_nil]; exact HR2.o, HB2.o⟩⟩
  · by_cases h1 : m < 248
    · have HV := hd (show numB m = [UInt8.ofNat m.toNat] by unfold numB; rw [if_neg h0, if_pos (by omega)])
      have HU := hd (show ((UInt8.ofNat m.toNat).toNat : Int) = m by rw [ofNat_toNat]; omega)
      go_enter Tryz.func49, Tryz.ntmps49
      go_wp2_with (first
        | (at_builtin; have _t := tok1; refine wpList_append_rowG rfl _ _ 27 rfl (From w.heap.size) 5 i0 (.int .u8 0) 1 1 Tryz.underlying27 hi hz0 hz1 hz2 rfl _ 0 0 [] rfl HR0.o A n c (u8E l) rfl HR.o (u8E_one _) (by unfold maxLen; omega) (by omega) ?_; intro A2 c2 w2 hown hchg; have HR2 := hd (show Row w2 (From w.heap.size) 5 1 A2 n c2 (u8E l) by simpa using hown.mono (fun q hq => hq.elim id (fun hq => Nat.le_trans HB0.o.size hq))); have HB2 := hd (HB0.o.trans (hchg.below (fun _ h => h) HB0.o.size)); have hs2 := HB2.o.size; clear hown hchg HR0 tok1 _t; simp only [Nat.zero_add])
        | (at_builtin; refine wpList_append_row rfl _ _ 27 rfl (From w.heap.size) 5 i0 (.int .u8 0) 1 1 Tryz.underlying27 hi hz0 hz1 hz2 rfl A2 n c2 (u8E l) rfl (HR2.o.alloc _) ⟨_, 0, none⟩ 1 1 [.int .u8 m] rfl rfl (cells_at8 (Blk.new_ _ _ (by simp) _ _) rfl) (by simp [Value.oneCell']) (by omega) (by unfold maxLen; omega) (by omega) ?_; intro A3 c3 w3 hown3 hchg3))
      go_ret
      refine ⟨⟨A3, n + 1, c3, rfl, ?_, ?_, ?_⟩⟩
      · rw [HV.o, List.length_append, ← HN.o]; rfl
      · rw [HV.o, u8E_app, show u8E [UInt8.ofNat m.toNat] = [.int .u8 m] by show [Value.int .u8 ((UInt8.ofNat m.toNat).toNat : Int)] = _; rw [HU.o]]
        exact hown3.mono (fun q hq => hq.elim id (fun hq => by simp at hq; show w.heap.size ≤ q; omega))
      · exact HB2.o.trans (((Chg.refl (From w.heap.size) w2).alloc _).trans hchg3 (fun q hq => .inl hq) |>.below (fun _ h => h) hs2)
    · have HV := hd (show numB m = UInt8.ofNat (247 + nb m.toNat) :: be (nb m.toNat) m.toNat by unfold numB; rw [if_neg h0, if_neg (by omega)])
      obtain ⟨M, rfl⟩ : ∃ M : Nat, m = M := ⟨m.toNat, by omega⟩
      rw [Int.toNat_natCast] at HV
      have hM : M < 256 ^ 8 := by have : (256 : Nat) ^ 8 = 18446744073709551616 := by decide
                                  omega
      have HM8 := hd (nb_le hM)
      have HM0 := hd (show M ≠ 0 by omega)
      clear hM
      go_enter Tryz.func49, Tryz.ntmps49
      go_wp2_with (at_builtin; have _t := tok1; refine wpList_append_rowG rfl _ _ 27 rfl (From w.heap.size) 5 i0 (.int .u8 0) 1 1 Tryz.underlying27 hi hz0 hz1 hz2 rfl _ 0 0 [] rfl HR0.o A n c (u8E l) rfl HR.o (u8E_one _) (by unfold maxLen; omega) (by omega) ?_; intro A2 c2 w2 hown hchg; have HR2 := hd (show Row w2 (From w.heap.size) 5 1 A2 n c2 (u8E l) by simpa using hown.mono (fun q hq => hq.elim id (fun hq => Nat.le_trans HB0.o.size hq))); have HB2 := hd (HB0.o.trans (hchg.below (fun _ h => h) HB0.o.size)); have hs2 := HB2.o.size; clear hown hchg HR0 tok1 _t; simp only [Nat.zero_add])
      go_loopw [1, 6] (fun x ll wr => ∃ (j : Nat) (A4 : Option Addr) (c4 : Nat), x = .int .i64 ((M / 256 ^ j : Nat) : Int) ∧ ll = .slice A4 j c4 ∧ j ≤ 8 ∧ Hd (∀ i, i < j → M / 256 ^ i ≠ 0) ∧ Hd (Row wr (From w2.heap.size) 5 1 A4 j c4 (u8E (tl j M))) ∧ Hd (Below w2.heap.size w2 wr)) (fun x _ _ => (intOf x).toNat)
      case atStart => exact ⟨0, none, 0, by simp, rfl, by omega, hd (fun i hi => by omega), hd (Row.nil _ _ _ _), hd (Below.refl _ _)⟩
      case round =>
        obtain ⟨j, A4, c4, rfl, rfl, hj8, HNZ, HR4, HB4⟩ := hrel
        obtain ⟨wi, rfl⟩ : ∃ wi : World, wi = wr := ⟨_, rfl⟩
        have hs4 := HB4.o.size
        obtain ⟨X, hX⟩ : ∃ X, M / 256 ^ j = X := ⟨_, rfl⟩
        have hXM : X ≤ M := by rw [← hX]; exact Nat.div_le_self _ _
        have HX := hd hX
        rw [hX]
        by_cases hz : X = 0
        · subst hz
          have HNB := hd (show nb M = j from nb_of HX.o HNZ.o)
          have HTL := hd (show u8E (l ++ [UInt8.ofNat (247 + nb M)]) = u8E l ++ [.int .u8 (247 + (j : Int))] by
            rw [u8E_app, HNB.o]
            show _ ++ [Value.int .u8 ((UInt8.ofNat (247 + j)).toNat : Int)] = _
            rw [ofNat_toNat, Nat.mod_eq_of_lt (by omega), Int.natCast_add]
            rfl)
          have tok2 : True := trivial
          have HRA := hd ((HR2.o.below HB4.o).alloc (.cells #[.int .u8 (247 + (j : Int))] 5))
          have HBA := hd (HB2.o.trans (HB4.o.mono hs2))
          have HBC := hd (HBA.o.alloc HBA.o.size (.cells #[.int .u8 (247 + (j : Int))] 5))
          clear HX
          have HFR := hd (show ∀ w5 A5 c5, Chg (Of A2) (wi.alloc (.cells #[.int .u8 (247 + (j : Int))] 5)) w5 → Row w5 (Plus (Of A2) (wi.alloc (.cells #[.int .u8 (247 + (j : Int))] 5)).heap.size) 5 1 A5 (n + 1) c5 (u8E l ++ [.int .u8 (247 + (j : Int))]) → Row w5 (From w.heap.size) 5 1 A5 (n + 1) c5 (u8E (l ++ [UInt8.ofNat (247 + nb M)])) ∧ Rds w5 A4 j 1 (u8E (tl j M)) ∧ Below w.heap.size w w5 from fun w5 A5 c5 hc hr => by
            have hsub := HRA.o.of_sub
            refine ⟨?_, ?_, ?_⟩
            · rw [HTL.o]
              exact hr.mono (fun q hq => hq.elim (fun h => hsub q h) (fun h => Nat.le_trans HBC.o.size h))
            · refine (HR4.o.alloc _).rds.chg hc (fun q hq hq2 => ?_)
              have h1 := HR4.o.of_sub q hq
              cases A2 with
              | none => exact Of.none hq2
              | some a => have h2 := HR2.o.lt rfl; have := hq2.some_; have h1 : w2.heap.size ≤ q := h1; omega
            · exact HBC.o.trans (hc.below (fun q hq => hsub q hq) HBC.o.size))
          go_wp2_with (first
            | (at_builtin; have _t := tok2; refine wpList_append_row rfl _ _ 27 rfl (Of A2) 5 i0 (.int .u8 0) 1 1 Tryz.underlying27 hi hz0 hz1 hz2 rfl A2 n c2 (u8E l) rfl HRA.o.own_ ⟨_, 0, none⟩ 1 1 [.int .u8 (247 + (j : Int))] rfl rfl (cells_at8 (Blk.new_ _ _ (by simp) _ _) rfl) (by simp [Value.oneCell']) (by omega) (by unfold maxLen; omega) (by omega) ?_; intro A5 c5 w5 hown5 hchg5; have HF := hd (HFR.o _ _ _ hchg5 hown5); clear tok2 _t hown5 hchg5)
            | (at_builtin; refine wpList_append_rowG rfl _ _ 27 rfl (From w.heap.size) 5 i0 (.int .u8 0) 1 1 Tryz.underlying27 hi hz0 hz1 hz2 rfl A5 (n + 1) c5 (u8E (l ++ [UInt8.ofNat (247 + nb M)])) rfl HF.o.1 A4 j c4 (u8E (tl j M)) rfl HF.o.2.1 (u8E_one _) (by unfold maxLen; omega) (by omega) ?_; intro A6 c6 w6 hown6 hchg6))
          go_ret
          refine ⟨⟨A6, n + 1 + j, c6, rfl, ?_, ?_, HF.o.2.2.trans (hchg6.below (fun _ h => h) HF.o.2.2.size)⟩⟩
          · rw [HV.o, HNB.o, List.length_append, List.length_cons, be_len, ← HN.o]; omega
          · have e : l ++ numB (M : Int) = (l ++ [UInt8.ofNat (247 + nb M)]) ++ tl j M := by
              rw [HV.o, HNB.o, be_tl]; simp
            rw [e, u8E_app]
            exact hown6.mono (fun q hq => hq.elim id (fun hq => Nat.le_trans HF.o.2.2.size hq))
        · have hXp : (0 : Int) < (X : Int) := by omega
          have hXd : decide ((0 : Int) < (X : Int)) = true := by simpa using hXp
          have HAN := hd (show bits BinOp.and IntKind.i64 (X : Int) 255 % 256 = ((UInt8.ofNat X).toNat : Int) by
            rw [and255 X (by omega) (by omega), ofNat_toNat]; omega)
          have hj7 : j < 8 := by
            rcases Nat.lt_or_ge j 8 with h | h
            · exact h
            · exfalso
              apply hz
              rw [← HX.o, show j = 8 by omega]
              exact Nat.div_eq_of_lt (by have : (256 : Nat) ^ 8 = 18446744073709551616 := by decide
                                         omega)
          have HNZ2 := hd (show ∀ i, i < j + 1 → M / 256 ^ i ≠ 0 from fun i hi => by
            by_cases e : i = j
            · rw [e, HX.o]; exact hz
            · exact HNZ.o i (by omega))
          have HDV := hd (show M / 256 ^ (j + 1) = X / 256 by rw [Nat.pow_succ, ← Nat.div_div_eq_div_mul, HX.o])
          have HTL := hd (show u8E (tl (j + 1) M) = [.int .u8 (bits BinOp.and IntKind.i64 (X : Int) 255 % 256)] ++ u8E (tl j M) by
            rw [HAN.o, tl, HX.o]; rfl)
          have HRO := hd (row_one (w := wi) (B := w2.heap.size) hs4 5 (.int .u8 (bits BinOp.and IntKind.i64 (X : Int) 255 % 256)))
          have HBO := hd (HB4.o.alloc hs4 (.cells #[.int .u8 (bits BinOp.and IntKind.i64 (X : Int) 255 % 256)] 5))
          have HR4a := hd (HR4.o.rds.alloc (.cells #[.int .u8 (bits BinOp.and IntKind.i64 (X : Int) 255 % 256)] 5))
          clear hz
          go_wp2_with (at_builtin; refine wpList_append_rowG rfl _ _ 27 rfl (From w2.heap.size) 5 i0 (.int .u8 0) 1 1 Tryz.underlying27 hi hz0 hz1 hz2 rfl _ 1 1 [.int .u8 (bits BinOp.and IntKind.i64 (X : Int) 255 % 256)] rfl HRO.o A4 j c4 (u8E (tl j M)) rfl HR4a.o (u8E_one _) (by unfold maxLen; omega) (by omega) ?_; intro A5 c5 w5 hown5 hchg5)
          have HR5 := hd (show Row w5 (From w2.heap.size) 5 1 A5 (j + 1) c5 (u8E (tl (j + 1) M)) by
            rw [HTL.o, Nat.add_comm j 1]
            exact hown5.mono (fun q hq => hq.elim id (fun hq => Nat.le_trans HBO.o.size hq)))
          have HB5 := hd (HBO.o.trans (hchg5.below (fun _ h => h) HBO.o.size))
          clear hown5 hchg5
          go_roundw
          case rel => exact ⟨j + 1, A5, c5, by rw [HDV.o] <;> (try go_num), by rw [Nat.add_comm] <;> rfl, by omega, HNZ2, HR5, HB5⟩
          case measure => simp [intOf]; omega

end Go.Proofs.YtogjokofmfpmgaaGreatDoor
namespace Go.Proofs.YtogjokofmfpmgaaGreatDoor
open Go.RowKit

set_option maxHeartbeats 2000000 in
theorem rptext_calls (w : World) (A : Option Addr) (n c : Nat) (l : List UInt8) (s : ByteArray) (hn : n = l.length) (hr : Rds w A n 1 (u8E l)) (hb : n ≤ 900000) (hs : s.size ≤ 90000) :
    Calls Tryz.prog 47 #[.slice A n c, .string s] w fun e w' => BytR 5 w (l ++ textB s.data.toList) e w' := by
  obtain ⟨i0, hi, hz0, hz1, hz2⟩ := info_parts pkInfo
  have C1 := hd (rpnum_calls w A n c l (s.size : Int) hn hr (by omega) (by omega) (by omega))
  have HNL := hd (show (numB (s.size : Int)).length ≤ 9 from numB_len _ (by omega))
  have HN := hd hn
  have HS := hd (show textB s.data.toList = numB (s.size : Int) ++ s.data.toList by unfold textB; rw [ba_size])
  clear hn hr
  go_enter Tryz.func47, Tryz.ntmps47
  go_wp2_with fail
  refine C1.o.mono ?_
  rintro e w1 ⟨⟨B, m, d, rfl, hm, hr, hb1⟩⟩
  have hmb : m ≤ 900009 := by rw [hm, List.length_append, ← HN.o]; have := HNL.o; omega
  have HM := hd hm
  have HR := hd hr
  have HB1 := hd hb1
  clear hm hr hb1
  go_wp2_with (at_builtin; refine wpList_append_str rfl _ _ 27 9 rfl (From w.heap.size) 5 i0 (.int .u8 0) 1 Tryz.underlying27 Tryz.underlying9 hi hz0 hz1 hz2 rfl B m d (u8E (l ++ numB (s.size : Int))) rfl HR.o s rfl (by unfold maxLen; omega) (by omega) ?_; intro A3 c3 w3 hown3 hchg3)
  go_ret
  refine ⟨⟨A3, m + s.size, c3, rfl, ?_, ?_, HB1.o.trans ((hchg3.below (fun _ h => h) HB1.o.size))⟩⟩
  · rw [HS.o, HM.o, ba_size]
    simp only [List.length_append]
    omega
  · rw [HS.o, ← List.append_assoc, u8E_app (l ++ numB (s.size : Int))]
    exact hown3.mono (fun q hq => hq.elim id (fun hq => Nat.le_trans HB1.o.size hq))

set_option maxHeartbeats 2000000 in
theorem rpcond_calls (w : World) (A : Option Addr) (n c : Nat) (l : List UInt8) (ck cv : Int) (hn : n = l.length) (hr : Rds w A n 1 (u8E l)) (hb : n ≤ 800000) (hck : I64b ck) (hcv : I64b cv) :
    Calls Tryz.prog 48 #[.slice A n c, .agg #[.int .i64 ck, .int .i64 cv]] w fun e w' => BytR 5 w (l ++ condB ck cv) e w' := by
  obtain ⟨X, hX⟩ : ∃ X, X = w.alloc (.cells #[.int .i64 ck, .int .i64 cv] 23) := ⟨_, rfl⟩
  have hbx : Blk X w.heap.size 23 #[.int .i64 ck, .int .i64 cv] := by rw [hX]; exact Blk.new _ _ _
  have hrx : Rds X A n 1 (u8E l) := by rw [hX]; exact hr.alloc _
  have HBX := hd (show Below w.heap.size w X by rw [hX]; exact (Below.refl _ w).alloc (Nat.le_refl _) _)
  have C1 := hd (rpnum_calls X.drew A n c l ck hn (hrx.drewN 1) (by omega) hck.2 hck.1)
  have x0 := hbx.at_ 0 rfl
  have x1 := hbx.at_ 1 rfl
  have hxl := hbx.lt
  have HX := hd hX
  have HN := hd hn
  have HK1 := hd (numB_len9 hck)
  have HCV1 := hd hcv.1
  have HCV2 := hd hcv.2
  clear hX hn hr hrx hck hcv
  have tok1 : True := trivial
  go_enter Tryz.func48, Tryz.ntmps48
  go_wp2_with fail
  rw [← HX.o]
  go_region_held3 (fun w' => w'.cell? ⟨w.heap.size, 0, none⟩ = some (.int .i64 ck) ∧ w'.cell? ⟨w.heap.size, 1, none⟩ = some (.int .i64 cv)) (first | go_keep | (with_reducible exact ⟨k1, k2⟩)) (first
    | (go_at_call 49; have _t := tok1; (with_reducible refine C1.o.mono ?_); rintro e w1 ⟨⟨B, m, d, rfl, hm, hr1, hb1⟩⟩; have k1 := (hb1.cell (p := ⟨w.heap.size, 0, none⟩) hxl).trans x0; have k2 := (hb1.cell (p := ⟨w.heap.size, 1, none⟩) hxl).trans x1; have hml : m ≤ 900000 := (by have h1 := HK1.o; have h2 := HN.o; rw [hm, List.length_append]; omega); have HM := hd hm; have HR1 := hd hr1; have HB1 := hd hb1; clear tok1 hm hr1 hb1 _t)
    | (go_at_call 49; (with_reducible refine (rpnum_calls _ B m d _ cv HM.o HR1.o.rds (by omega) HCV2.o HCV1.o).mono ?_); rintro e w2 ⟨⟨B2, m2, d2, rfl, hm2, hr2, hb2⟩⟩; have j1 := (hb2.cell (p := ⟨w.heap.size, 0, none⟩) (Nat.lt_of_lt_of_le hxl HB1.o.size)).trans k1; have j2 := (hb2.cell (p := ⟨w.heap.size, 1, none⟩) (Nat.lt_of_lt_of_le hxl HB1.o.size)).trans k2; clear k1 k2; have k1 := j1; have k2 := j2; clear j1 j2; have HM2 := hd hm2; have HR2 := hd hr2; have HB2 := hd hb2; clear hm2 hr2 hb2))
  go_wp2
  go_ret
  refine ⟨⟨B2, m2, d2, rfl, ?_, ?_, ?_⟩⟩
  · rw [HM2.o]; simp [condB]
  · have h := HR2.o
    rw [List.append_assoc] at h
    exact h.mono (fun q hq => Nat.le_trans (Nat.le_trans HBX.o.size HB1.o.size) hq)
  · exact HBX.o.trans ((undr (HB1.o.trans (HB2.o.mono HB1.o.size))).mono HBX.o.size)

theorem bit_calls (b : Bool) (w : World) : Calls Tryz.prog 50 #[.bool b] w fun e w' => e = .returned (.int .i64 (if b then 1 else 0)) ∧ w = w' := by
  cases b with
  | true =>
    go_enter Tryz.func50, Tryz.ntmps50
    go_wp2
    go_ret
    exact ⟨rfl, rfl⟩
  | false =>
    go_enter Tryz.func50, Tryz.ntmps50
    go_wp2
    go_ret
    exact ⟨rfl, rfl⟩

end Go.Proofs.YtogjokofmfpmgaaGreatDoor
