/-
  Addresses: whether two are one; an address's own form.
-/
import Derived.Test.YtpejlcaoggedfaaGreatDoorMailI
import Derived.Lib.QuietBelow
set_option linter.unusedVariables false
set_option linter.unusedSimpArgs false
namespace Go.Proofs.YtpejlcaoggedfaaGreatDoor
open Go.RowKit Go.Sort

/-- What stands behind the last @, as small signs. -/
def lfold : List UInt8 → List UInt8
  | [] => []
  | c :: r => if 64 ∈ r then c :: lfold r else if c = 64 then c :: foldL r else c :: r
theorem lfold_no : ∀ l : List UInt8, (64 : UInt8) ∉ l → lfold l = l
  | [], _ => rfl
  | c :: r, h => by
    simp only [List.mem_cons, not_or] at h
    rw [lfold, if_neg h.2, if_neg (fun e => h.1 e.symm)]
theorem lfold_at : ∀ (a b : List UInt8), (64 : UInt8) ∉ b → lfold (a ++ 64 :: b) = a ++ 64 :: foldL b
  | [], b, h => by rw [List.nil_append, lfold, if_neg h, if_pos rfl]; rfl
  | x :: a, b, h => by
    rw [List.cons_append, lfold, if_pos (by simp), lfold_at a b h]; rfl
theorem lfold_last {l : List UInt8} {q : Nat} (h : LastAt l q) : lfold l = l.take q ++ 64 :: foldL (l.drop (q + 1)) := by
  conv => lhs; rw [lastAt_split h]
  exact lfold_at _ _ (lastAt_aft h)
theorem foldL_64 (c : UInt8) : lowU c = 64 → c = 64 := by
  intro h
  unfold lowU at h
  split at h
  · next hc =>
    have := congrArg UInt8.toNat h
    rw [UInt8.toNat_add, show (32 : UInt8).toNat = 32 from rfl, show (64 : UInt8).toNat = 64 from rfl] at this
    omega
  · exact h
theorem fold_no {l : List UInt8} (h : (64 : UInt8) ∉ l) : (64 : UInt8) ∉ foldL l := by
  intro hm
  obtain ⟨c, hc, e⟩ := List.mem_map.1 hm
  exact h (foldL_64 c e ▸ hc)
theorem foldL_len (l : List UInt8) : (foldL l).length = l.length := by simp [foldL]
open Classical in
noncomputable def canT (l : List UInt8) : List UInt8 := if cleanE l = 0 ∧ AddrP (lfold (cleanT l)) then lfold (cleanT l) else []
open Classical in
noncomputable def canE (l : List UInt8) : Int := if cleanE l = 0 then (if AddrP (lfold (cleanT l)) then 0 else 1) else cleanE l
theorem can_e {l : List UInt8} (h : cleanE l ≠ 0) : canT l = [] ∧ canE l = cleanE l := by simp [canT, canE, h]
theorem can_yes {l : List UInt8} (h : cleanE l = 0) (k : AddrP (lfold (cleanT l))) : canT l = lfold (cleanT l) ∧ canE l = 0 := by simp [canT, canE, h, k]
theorem can_no {l : List UInt8} (h : cleanE l = 0) (k : ¬ AddrP (lfold (cleanT l))) : canT l = [] ∧ canE l = 1 := by simp [canT, canE, h, k]
theorem cleanT_len (l : List UInt8) : (cleanT l).length ≤ 64 := by
  unfold cleanT
  repeat' split
  all_goals first | (simp; done) | omega
theorem bs_ext (l : List UInt8) (a b : Nat) : (bs l).extract a b = bs ((l.drop a).take (b - a)) := by
  have := ext_data (bs l) a b
  rw [bs_data] at this
  rw [← this]
  exact (bs_self _).symm
theorem bs_app2 (a b : List UInt8) : bs a ++ bs b = bs (a ++ b) := by
  apply ByteArray.ext; simp [bs]

/-- What the text is behind the folding, from whichever place. -/
def Folded (T : List UInt8) (a : Nat) (C : List UInt8) : Prop := T.take a ++ foldL (T.drop a) = C ∧ (AddrP C → C = lfold T) ∧ (AddrP (lfold T) → AddrP C)
theorem folded_at {T : List UInt8} {q : Nat} (h : LastAt T q) : ∃ C, Folded T (q + 1) C := by
  refine ⟨lfold T, ?_, fun _ => rfl, fun h => h⟩
  rw [lfold_last h]
  have hq := h.1
  have h64 : T[q] = 64 := by
    have := h.2.1
    rw [bt_list T q hq] at this
    exact UInt8.toNat_inj.1 this
  have : T.take (q + 1) = T.take q ++ [64] := by rw [List.take_succ_eq_append_getElem hq, h64]
  rw [this]; simp
theorem folded_from {T : List UInt8} {q : Nat} (h : LastAt T q) : ∃ C, Folded T q C := by
  refine ⟨lfold T, ?_, fun _ => rfl, fun h => h⟩
  rw [lfold_last h]
  have hq := h.1
  have h64 : T[q] = 64 := by
    have := h.2.1
    rw [bt_list T q hq] at this
    exact UInt8.toNat_inj.1 this
  rw [List.drop_eq_getElem_cons hq, h64]
  rfl
theorem folded_none {T : List UInt8} (h : (64 : UInt8) ∉ T) : ∃ C, Folded T 0 C :=
  ⟨foldL T, by simp, fun hA => absurd hA.2.1 (fold_no h), fun hA => absurd hA.2.1 (by rw [lfold_no T h]; exact h)⟩
theorem folded_end {T : List UInt8} (h : (64 : UInt8) ∉ T) : ∃ C, Folded T T.length C :=
  ⟨T, by simp [foldL], fun hA => absurd hA.2.1 h, fun hA => absurd hA.2.1 (by rw [lfold_no T h]; exact h)⟩
theorem lastIx_calls (T : List UInt8) (h : T.length ≤ 64) (w : World) : Calls Tryz.prog 76 #[.string (bs T), .int .u8 64] w fun e w' => (∃ a : Nat, e = .returned (.int .i64 ((a : Int) - 1)) ∧ a ≤ T.length ∧ ∃ C, Folded T a C) ∧ w = w' := by
  refine (Any.strings_LastIndexByte lays149 (bs T) 64 (by rw [bs_size]; omega) w).mono ?_
  rintro e w' ⟨rfl, rfl⟩
  refine ⟨?_, rfl⟩
  have key : ∀ j, j < T.length → (((bs T).data[j]!).toNat : Int) = (bt T j : Int) := fun j hj => by
    simp [bs, bt, List.getD_eq_getElem?_getD, hj]
  rcases Lib.lastIndexByte_spec (bs T) 64 with ⟨e, hn⟩ | ⟨i, hi, e, hc, hn⟩
  · rw [bs_size] at hn
    exact ⟨0, by rw [e]; rfl, by omega, folded_none (no_at (fun j hj h64 => hn j hj (by rw [key j hj, h64]; rfl)))⟩
  · rw [bs_size] at hi hn
    refine ⟨i + 1, by rw [e]; simp, by omega, folded_at ⟨hi, ?_, fun j h1 h2 h64 => hn j h1 h2 (by rw [key j h2, h64]; rfl)⟩⟩
    have := hc
    rw [key i hi] at this
    omega

set_option maxRecDepth 100000 in
set_option maxHeartbeats 4000000 in
theorem canon_calls (s : ByteArray) (hs : s.size ≤ 1000000) (w : World) (ht : Tbl w) : Calls Tryz.prog 54 #[.string s] w fun e w' => e = .returned (.tuple #[.string (bs (canT s.data.toList)), .int .i64 (canE s.data.toList)]) ∧ Below w.heap.size w w' := by
  have HT := hd ht
  clear ht
  have C1 := hd (clean_calls s hs w (HT.o))
  obtain ⟨V, hV⟩ : ∃ V, canT s.data.toList = V := ⟨_, rfl⟩
  obtain ⟨F, hF⟩ : ∃ F, canE s.data.toList = F := ⟨_, rfl⟩
  rw [hV, hF]
  have HR := hd (⟨hV.symm, hF.symm⟩ : V = canT s.data.toList ∧ F = canE s.data.toList)
  clear hV hF
  have hl := cleanT_len s.data.toList
  have R1 := hd (fun h : cleanE s.data.toList ≠ 0 => can_e h)
  have R2 := hd (fun (h : cleanE s.data.toList = 0) k => can_yes h k)
  have R3 := hd (fun (h : cleanE s.data.toList = 0) k => can_no h k)
  obtain ⟨T, hT⟩ : ∃ T, cleanT s.data.toList = T := ⟨_, rfl⟩
  obtain ⟨E, hE⟩ : ∃ E, cleanE s.data.toList = E := ⟨_, rfl⟩
  rw [hT, hE] at C1 R2 R3
  rw [hE] at R1
  rw [hT] at hl
  clear hT hE
  by_cases hE0 : E = 0
  · have HE := hd hE0
    subst hE0
    have hz : (bs T).size = T.length := bs_size T
    have HZ := hd hz
    clear hz
    have hz1 : (bs T).size ≤ 64 := by rw [HZ.o]; exact hl
    go_enter Tryz.func54, Tryz.ntmps54
    go_wp2_with fail
    refine C1.o.mono ?_
    rintro e w1 ⟨rfl, hb1⟩
    have B1 := hd hb1
    clear hb1
    go_wp2_with fail
    refine (lastIx_calls T hl w1).mono ?_
    rintro e w' ⟨⟨a, rfl, hal, C, hC⟩, rfl⟩
    have HC := hd hC
    clear hC
    have hsum : (a : Int) - 1 + 1 = (a : Int) := by omega
    go_wp2_with fail
    have ha0 : (0 : Int) ≤ (a : Int) := by omega
    have ha1 : (a : Int) ≤ ((bs T).size : Int) := by rw [HZ.o]; omega
    have hzz : ((bs T).extract a (bs T).size).size ≤ 1000000000 := by rw [ByteArray.size_extract]; omega
    have FC := fold_calls ((bs T).extract a (bs T).size) hzz
    have ef : ((bs T).extract a (bs T).size).data.toList = T.drop a := by
      rw [ext_data, bs_data]; exact List.take_of_length_le (by rw [List.length_drop, HZ.o]; exact Nat.le_refl _)
    rw [ef] at FC
    clear hzz
    have D1 := hd (fun dd os => Calls.regrown_of (FC (grow (redrawn w1 dd) os)))
    have z1 : (bs (foldL (T.drop a))).size ≤ 64 := by rw [bs_size, foldL_len, List.length_drop]; omega
    have z2 : ((bs T).extract 0 a).size ≤ 64 := by rw [ByteArray.size_extract]; omega
    clear FC ef
    refine wp_region_quiet_below (by kernel_rfl) (by kernel_rfl) ?_
    repeat (go_big_quiet_step (exact D1.o _ _))
    refine wpQuiet_nil ?_
    intro w2 hw'
    have hb2 : Below w1.heap.size w1 w2 := by
      obtain ⟨⟨dq, osq⟩, hw''⟩ := hw'
      subst hw''
      exact below_regrown w1 dq osq
    have B2 := hd (B1.o.trans (hb2.mono B1.o.size))
    clear hw' hb2
    have e4 : (bs T).extract 0 a ++ bs (foldL (T.drop a)) = bs C := by
      rw [bs_ext, List.drop_zero, Nat.sub_zero, bs_app2, HC.o.1]
    rw [e4]
    clear e4 z1 z2
    have hIS := is_calls (bs C) (by rw [bs_size, ← HC.o.1, List.length_append, foldL_len, List.length_take, List.length_drop]; omega) w2 (HT.o.below B2.o)
    rw [bs_data] at hIS
    by_cases hA : AddrP C
    · rw [addrB_t hA] at hIS
      have HX := hd (R2.o trivial (HC.o.2.1 hA ▸ hA))
      have HCL := hd (HC.o.2.1 hA)
      have HIS := hd hIS
      clear hIS hA
      go_wp2_with fail
      refine HIS.o.mono ?_
      rintro e w3 ⟨rfl, hb3⟩
      go_wp2_with fail
      go_ret2
      exact ⟨retTE (by rw [HR.o.1, HX.o.1, ← HCL.o]) (by rw [HR.o.2, HX.o.2]), B2.o.trans (hb3.mono B2.o.size)⟩
    · rw [addrB_f hA] at hIS
      have HX := hd (R3.o trivial (fun h => hA (HC.o.2.2 h)))
      have HIS := hd hIS
      clear hIS hA
      go_wp2_with fail
      refine HIS.o.mono ?_
      rintro e w3 ⟨rfl, hb3⟩
      go_wp2_with fail
      go_ret2
      exact ⟨retTE (by rw [HR.o.1, HX.o.1]; rfl) (by rw [HR.o.2, HX.o.2]), B2.o.trans (hb3.mono B2.o.size)⟩
  · have n0 : (E != 0) = true := by simpa using hE0
    have H0 := hd (R1.o hE0)
    clear hE0
    go_enter Tryz.func54, Tryz.ntmps54
    go_wp2_with fail
    refine C1.o.mono ?_
    rintro e w1 ⟨rfl, hb1⟩
    go_wp2_with fail
    go_ret2
    exact ⟨retTE (by rw [HR.o.1, H0.o.1]; rfl) (by rw [HR.o.2, H0.o.2]), hb1⟩

set_option maxRecDepth 100000 in
set_option maxHeartbeats 4000000 in
theorem rmail_calls (s : ByteArray) (hs : s.size ≤ 1000000) (w : World) : Calls Tryz.prog 65 #[.string s] w fun e w' => e = .returned (.tuple #[.string (bs (canT s.data.toList)), .int .i64 (canE s.data.toList)]) ∧ Below w.heap.size w w' := by
  have C1 := hd (rclean_calls s hs w)
  obtain ⟨V, hV⟩ : ∃ V, canT s.data.toList = V := ⟨_, rfl⟩
  obtain ⟨F, hF⟩ : ∃ F, canE s.data.toList = F := ⟨_, rfl⟩
  rw [hV, hF]
  have HR := hd (⟨hV.symm, hF.symm⟩ : V = canT s.data.toList ∧ F = canE s.data.toList)
  clear hV hF
  have hl := cleanT_len s.data.toList
  have R1 := hd (fun h : cleanE s.data.toList ≠ 0 => can_e h)
  have R2 := hd (fun (h : cleanE s.data.toList = 0) k => can_yes h k)
  have R3 := hd (fun (h : cleanE s.data.toList = 0) k => can_no h k)
  obtain ⟨T, hT⟩ : ∃ T, cleanT s.data.toList = T := ⟨_, rfl⟩
  obtain ⟨E, hE⟩ : ∃ E, cleanE s.data.toList = E := ⟨_, rfl⟩
  rw [hT, hE] at C1 R2 R3
  rw [hE] at R1
  rw [hT] at hl
  clear hT hE
  by_cases hE0 : E = 0
  · have HE := hd hE0
    subst hE0
    have hz : (bs T).size = T.length := bs_size T
    have HZ := hd hz
    clear hz
    have hz1 : (bs T).size ≤ 64 := by rw [HZ.o]; exact hl
    go_enter Tryz.func65, Tryz.ntmps65
    go_wp2_with fail
    refine C1.o.mono ?_
    rintro e w1 ⟨rfl, hb1⟩
    have B1 := hd hb1
    clear hb1
    go_wp2_with fail
    go_loop [6, 7] (fun x i => ∃ k a : Nat, i = .int .i64 k ∧ x = .int .i64 a ∧ k ≤ (bs T).size ∧ Hd (∃ p : Int, SeekAt T k p ∧ ((p = -1 ∧ a = T.length) ∨ p = a))) (fun _ i => (bs T).size - (intOf i).toNat)
    case atStart => exact ⟨0, (bs T).size, rfl, rfl, Nat.zero_le _, -1, .inl ⟨rfl, fun j h => absurd h (Nat.not_lt_zero _)⟩, .inl ⟨rfl, HZ.o⟩⟩
    case round =>
      obtain ⟨k, a, rfl, rfl, hk, hh⟩ := hrel
      have hki : (0 : Int) ≤ (k : Int) := by omega
      by_cases hlt : k < (bs T).size
      · have BK := hd (bt_self (bs T) k hlt)
        rw [bs_data] at BK
        by_cases hc : (bs T)[k].toNat = 64
        · have n64 : (((bs T)[k].toNat : Int) == 64) = true := by simp; omega
          have HN : Hd (∃ p : Int, SeekAt T (k + 1) p ∧ ((p = -1 ∧ k = T.length) ∨ p = k)) := ⟨k, seek_yes (BK.o.trans hc), .inr rfl⟩
          clear hc
          go_wp2
          go_round
          case rel => exact ⟨k + 1, k, by go_num, rfl, by omega, HN⟩
          case measure => simp [intOf]; omega
        · have n64 : (((bs T)[k].toNat : Int) == 64) = false := by simp; omega
          have HN : Hd (∃ p : Int, SeekAt T (k + 1) p ∧ ((p = -1 ∧ a = T.length) ∨ p = a)) := by
            obtain ⟨p, h1, h2⟩ := hh.o
            exact ⟨p, seek_no h1 (by rw [BK.o]; exact hc), h2⟩
          clear hc
          go_wp2
          go_round
          case rel => exact ⟨k + 1, a, by go_num, rfl, by omega, HN⟩
          case measure => simp [intOf]; omega
      · have hke : k = (bs T).size := by omega
        have hC : a ≤ T.length ∧ ∃ C, Folded T a C := by
          obtain ⟨p, hseek, hx⟩ := hh.o
          rw [hke, HZ.o] at hseek
          rcases hseek with ⟨hp, hn⟩ | ⟨q, hp, h1, h2, h3⟩
          · rcases hx with ⟨_, rfl⟩ | hp'
            · exact ⟨Nat.le_refl _, folded_end (no_at hn)⟩
            · omega
          · rcases hx with ⟨hp', _⟩ | hp'
            · omega
            · obtain rfl : a = q := by omega
              exact ⟨by omega, folded_from ⟨h1, h2, h3⟩⟩
        obtain ⟨hal, C, hC⟩ := hC
        have HC := hd hC
        clear hC hke
        go_wp2_with fail
        have ha0 : (0 : Int) ≤ (a : Int) := by omega
        have ha1 : (a : Int) ≤ ((bs T).size : Int) := by rw [HZ.o]; omega
        have hzz : ((bs T).extract a (bs T).size).size ≤ 1000000000 := by rw [ByteArray.size_extract]; omega
        have FC := rfold_calls ((bs T).extract a (bs T).size) hzz
        have ef : ((bs T).extract a (bs T).size).data.toList = T.drop a := by
          rw [ext_data, bs_data]; exact List.take_of_length_le (by rw [List.length_drop, HZ.o]; exact Nat.le_refl _)
        rw [ef] at FC
        clear hzz
        have D1 := hd (fun dd os => Calls.regrown_of (FC (grow (redrawn w1 dd) os)))
        have z1 : (bs (foldL (T.drop a))).size ≤ 64 := by rw [bs_size, foldL_len, List.length_drop]; omega
        have z2 : ((bs T).extract 0 a).size ≤ 64 := by rw [ByteArray.size_extract]; omega
        clear FC ef
        refine wp_region_quiet_below (by kernel_rfl) (by kernel_rfl) ?_
        repeat (go_big_quiet_step (exact D1.o _ _))
        refine wpQuiet_nil ?_
        intro w2 hw'
        have hb2 : Below w1.heap.size w1 w2 := by
          obtain ⟨⟨dq, osq⟩, hw''⟩ := hw'
          subst hw''
          exact below_regrown w1 dq osq
        have B2 := hd (B1.o.trans (hb2.mono B1.o.size))
        clear hw' hb2
        have e4 : (bs T).extract 0 a ++ bs (foldL (T.drop a)) = bs C := by
          rw [bs_ext, List.drop_zero, Nat.sub_zero, bs_app2, HC.o.1]
        rw [e4]
        clear e4 z1 z2
        have hIS := ris_calls (bs C) (by rw [bs_size, ← HC.o.1, List.length_append, foldL_len, List.length_take, List.length_drop]; omega) w2
        rw [bs_data] at hIS
        by_cases hA : AddrP C
        · rw [addrB_t hA] at hIS
          have HX := hd (R2.o trivial (HC.o.2.1 hA ▸ hA))
          have HCL := hd (HC.o.2.1 hA)
          have HIS := hd hIS
          clear hIS hA
          go_wp2_with fail
          refine HIS.o.mono ?_
          rintro e w3 ⟨rfl, hb3⟩
          go_wp2_with fail
          go_ret2
          exact ⟨retTE (by rw [HR.o.1, HX.o.1, ← HCL.o]) (by rw [HR.o.2, HX.o.2]), B2.o.trans (hb3.mono B2.o.size)⟩
        · rw [addrB_f hA] at hIS
          have HX := hd (R3.o trivial (fun h => hA (HC.o.2.2 h)))
          have HIS := hd hIS
          clear hIS hA
          go_wp2_with fail
          refine HIS.o.mono ?_
          rintro e w3 ⟨rfl, hb3⟩
          go_wp2_with fail
          go_ret2
          exact ⟨retTE (by rw [HR.o.1, HX.o.1]; rfl) (by rw [HR.o.2, HX.o.2]), B2.o.trans (hb3.mono B2.o.size)⟩
  · have n0 : (E != 0) = true := by simpa using hE0
    have H0 := hd (R1.o hE0)
    clear hE0
    go_enter Tryz.func65, Tryz.ntmps65
    go_wp2_with fail
    refine C1.o.mono ?_
    rintro e w1 ⟨rfl, hb1⟩
    go_wp2_with fail
    go_ret2
    exact ⟨retTE (by rw [HR.o.1, H0.o.1]; rfl) (by rw [HR.o.2, H0.o.2]), hb1⟩

end Go.Proofs.YtpejlcaoggedfaaGreatDoor
