/-
  A text without blanks that say nothing, on the reference's side.
-/
import Derived.Test.YtogjokofmfpmgaaGreatDoorGAC
import Derived.IntWalk
import Derived.Lib.QuietBelow
set_option linter.unusedVariables false
set_option linter.unusedSimpArgs false
namespace Go.Proofs.YtogjokofmfpmgaaGreatDoor
open Go.RowKit


set_option maxRecDepth 100000 in
set_option maxHeartbeats 4000000 in
theorem rclean_calls (s : ByteArray) (hs : s.size ≤ 1000000) (w : World) : Calls Tryz.prog 132 #[.string s] w fun e w' => e = .returned (.tuple #[.string (bs (cleanT s.data.toList)), .int .i64 (cleanE s.data.toList)]) ∧ Below w.heap.size w w' := by
  have HL := hd (show s.data.toList.length = s.size by simp)
  obtain ⟨T, hT⟩ : ∃ T, cleanT s.data.toList = T := ⟨_, rfl⟩
  obtain ⟨E, hE⟩ : ∃ E, cleanE s.data.toList = E := ⟨_, rfl⟩
  rw [hT, hE]
  have HR := hd (⟨hT.symm, hE.symm⟩ : T = cleanT s.data.toList ∧ E = cleanE s.data.toList)
  clear hT hE
  obtain ⟨i0, hi, hz0, hz1, hz2⟩ := info_parts u8Info
  have HB1 := hd (Below.refl w.heap.size w)
  go_enter Tryz.func132, Tryz.ntmps132
  go_wp2
  go_loop [4, 5] (fun i _ => ∃ k : Nat, i = .int .i64 k ∧ k ≤ s.size ∧ Hd (scanB (s.data.toList.drop k) = cleanB s.data.toList)) (fun i _ => s.size - (intOf i).toNat)
  case atStart => exact ⟨0, rfl, Nat.zero_le _, hd (by rw [List.drop_zero]; exact scanB_clean _)⟩
  case round =>
    obtain ⟨k, rfl, hk, hh⟩ := hrel
    by_cases hlt : k < s.size
    · have hki : (0 : Int) ≤ (k : Int) := by omega
      have hne : s.data.toList.drop k ≠ [] := fun e => by
        have := congrArg List.length e
        rw [List.length_drop, HL.o] at this
        simp at this
        omega
      have hstep := scanB_step _ hne
      have hle := sgn_le _ hne
      rw [List.length_drop, HL.o] at hle
      rw [hh.o, bt_drop, Nat.add_zero, bt_self s k hlt] at hstep
      obtain ⟨q, hq⟩ : ∃ q, sgn (s.data.toList.drop k) = q := ⟨_, rfl⟩
      have hsg := sign_calls s k (by omega) hlt w
      rw [hq] at hle hstep hsg
      have HSG := hd hsg
      have HST := hd hstep
      clear hsg hstep hne hq
      by_cases hq0 : q = 0
      · have HZ := hd (cleanB_no s.data.toList (by rw [HST.o, if_pos (.inl hq0)]))
        subst hq0
        go_wp2_with (go_at_call 151; refine HSG.o.mono ?_; rintro e w' ⟨rfl, rfl⟩)
        go_ret2
        exact ⟨retTE (by rw [HR.o.1, HZ.o.1]; rfl) (by rw [HR.o.2, HZ.o.2]), Below.refl _ _⟩
      · have n0 : ((q : Int) == 0) = false := by simp; omega
        by_cases hc : 32 ≤ s[k].toNat ∧ s[k].toNat ≠ 127
        · have HN : Hd (scanB (s.data.toList.drop (k + q)) = cleanB s.data.toList) := by
            have := HST.o
            rw [if_neg (by simp [okC, hc, hq0])] at this
            rw [this, List.drop_drop]
            rfl
          obtain ⟨hc1, hc2⟩ := hc
          have n127 : ((s[k].toNat : Int) == 127) = false := by simp; omega
          have hq1 : 1 ≤ q := by omega
          clear hc2 hq0
          go_wp2_with (go_at_call 151; refine HSG.o.mono ?_; rintro e w' ⟨rfl, rfl⟩)
          go_round
          case rel => exact ⟨k + q, by simp, by omega, HN⟩
          case measure => simp [intOf]; omega
        · have HZ := hd (cleanB_no s.data.toList (by rw [HST.o, if_pos (.inr (by simp [okC]; omega))]))
          by_cases hc1 : s[k].toNat < 32
          · clear hc hq0
            go_wp2_with (go_at_call 151; refine HSG.o.mono ?_; rintro e w' ⟨rfl, rfl⟩)
            go_ret2
            exact ⟨retTE (by rw [HR.o.1, HZ.o.1]; rfl) (by rw [HR.o.2, HZ.o.2]), Below.refl _ _⟩
          · have n127 : ((s[k].toNat : Int) == 127) = true := by simp; omega
            clear hc hq0
            go_wp2_with (go_at_call 151; refine HSG.o.mono ?_; rintro e w' ⟨rfl, rfl⟩)
            go_ret2
            exact ⟨retTE (by rw [HR.o.1, HZ.o.1]; rfl) (by rw [HR.o.2, HZ.o.2]), Below.refl _ _⟩
    · have hke : k = s.size := by omega
      subst hke
      have HCL := hd (show cleanB s.data.toList = true by
        rw [← hh.o, List.drop_of_length_le (by rw [HL.o]; exact Nat.le_refl _)]; rfl)
      go_wp2
      clear hh
      go_loopw [6, 7] (fun out i wr => ∃ (k : Nat) (A : Option Addr) (c m : Nat) (O : List UInt8), i = .int .i64 k ∧ k ≤ s.size ∧ out = .slice A m c ∧ m ≤ k ∧ Hd ((s.data.toList.take k).foldl sq [] = O) ∧ Hd (O.length = m) ∧ Row wr (From w.heap.size) 5 1 A m c (enc8 O) ∧ Below w.heap.size w wr) (fun _ i _ => s.size - (intOf i).toNat)
      case atStart => exact ⟨0, none, 0, 0, [], rfl, Nat.zero_le _, rfl, Nat.le_refl _, rfl, rfl, Row.nil _ _ _ _, HB1.o⟩
      case round =>
        obtain ⟨k, A, c, m, O, rfl, hk, rfl, hm, HO, HM, hr, hbe⟩ := hrel
        have hsz := hbe.size
        have hki : (0 : Int) ≤ (k : Int) := by omega
        by_cases hlt : k < s.size
        · by_cases h32 : s[k].toNat = 32
          · have n32 : ((s[k].toNat : Int) == 32) = true := by simp; omega
            have H32 := hd h32
            clear h32
            by_cases hm0 : m = 0
            · have HM0 := hd hm0
              obtain rfl := hm0
              go_wp2_with fail
              go_roundw
              case rel => exact ⟨k + 1, A, c, 0, O, by go_num, by omega, rfl, by omega, hd (by rw [fold_take s k hlt, HO.o]; exact sq_skip0 O _ H32.o HM.o), HM, hr, hbe⟩
              case measure => simp [intOf]; omega
            · obtain ⟨m', hm'⟩ : ∃ m', m = m' + 1 := ⟨m - 1, by omega⟩
              have n0 : ((m : Int) == 0) = false := by simp; omega
              obtain ⟨g, hA, _, hg, hmc, hcm, hcell, _⟩ := hr.at_ (by omega)
              unfold maxLen at hcm
              have hlast := hcell m' _ (enc8_get O m' (by rw [HM.o]; omega))
              have e1 : (m : Int) - 1 = (m' : Int) := by omega
              have HM' := hd hm'
              have hm1 : m' < m := by omega
              have hm2 : m ≤ 1000000 := by omega
              clear hm' hcell hm0
              subst hA
              by_cases hl : bt O m' = 32
              · have HLL := hd hl
                rw [hl] at hlast
                clear hl
                go_wp2_with fail
                go_roundw
                case rel => exact ⟨k + 1, some ⟨g, 0, none⟩, c, m, O, by go_num, by omega, rfl, by omega, hd (by rw [fold_take s k hlt, HO.o]; exact sq_skip _ H32.o (HM.o.trans HM'.o) HLL.o), HM, hr, hbe⟩
                case measure => simp [intOf]; omega
              · have nl : ((bt O m' : Int) == 32) = false := by simp; omega
                have HLL := hd hl
                clear hl
                go_wp2_with (at_builtin; go_loud (refine wpList_append_row rfl _ _ 27 rfl (Of (some ⟨g, 0, none⟩)) 5 i0 (.int .u8 0) 1 1 Tryz.underlying27 hi hz0 hz1 hz2 rfl (some ⟨g, 0, none⟩) m c (enc8 O) rfl (hr.own_.alloc _) ⟨_, 0, none⟩ 1 1 [.int .u8 (s[k].toNat : Int)] rfl rfl (cells_at (Blk.new_ _ _ (by simp) _ _) rfl) (by simp [Value.oneCell']) (by omega) (by unfold maxLen; omega) (by omega) ?_; intro A2 c2 w2 hown2 hchg2))
                go_roundw
                case rel =>
                  refine ⟨k + 1, A2, c2, m + 1, O ++ [s[k]], by go_num, by omega, rfl, by omega, hd (by rw [fold_take s k hlt, HO.o]; exact sq_put _ (HM.o.trans HM'.o) HLL.o), hd (by rw [List.length_append, HM.o]; rfl), ?_, ?_⟩
                  · rw [enc8_snoc]
                    refine hown2.mono fun q hq => ?_
                    rcases hq with hq | hq
                    · exact hr.of_sub q hq
                    · simp at hq; show w.heap.size ≤ q; omega
                  · exact hbe.trans ((((Chg.refl (From w.heap.size) wr).alloc _).trans hchg2 (fun q hq => .inl (hr.of_sub q hq))).below (fun _ h => h) hsz)
                case measure => simp [intOf]; omega
          · have n32 : ((s[k].toNat : Int) == 32) = false := by simp; omega
            have H32 := hd h32
            clear h32
            go_wp2_with (at_builtin; go_loud (refine wpList_append_row rfl _ _ 27 rfl (Of A) 5 i0 (.int .u8 0) 1 1 Tryz.underlying27 hi hz0 hz1 hz2 rfl A m c (enc8 O) rfl (hr.own_.alloc _) ⟨_, 0, none⟩ 1 1 [.int .u8 (s[k].toNat : Int)] rfl rfl (cells_at (Blk.new_ _ _ (by simp) _ _) rfl) (by simp [Value.oneCell']) (by omega) (by unfold maxLen; omega) (by omega) ?_; intro A2 c2 w2 hown2 hchg2))
            go_roundw
            case rel =>
              refine ⟨k + 1, A2, c2, m + 1, O ++ [s[k]], by go_num, by omega, rfl, by omega, hd (by rw [fold_take s k hlt, HO.o]; exact sq_other O _ H32.o), hd (by rw [List.length_append, HM.o]; rfl), ?_, ?_⟩
              · rw [enc8_snoc]
                refine hown2.mono fun q hq => ?_
                rcases hq with hq | hq
                · exact hr.of_sub q hq
                · simp at hq; show w.heap.size ≤ q; omega
              · exact hbe.trans ((((Chg.refl (From w.heap.size) wr).alloc _).trans hchg2 (fun q hq => .inl (hr.of_sub q hq))).below (fun _ h => h) hsz)
            case measure => simp [intOf]; omega
        · have hke : k = s.size := by omega
          subst hke
          clear hk
          have hfold : s.data.toList.take s.size = s.data.toList := List.take_of_length_le (by rw [HL.o]; exact Nat.le_refl _)
          rw [hfold] at HO
          clear hfold
          by_cases hm0 : m = 0
          · have HZ := hd (cleanB_0 _ HCL.o (by
              have : O = [] := List.eq_nil_of_length_eq_zero (HM.o.trans hm0)
              unfold sqz
              rw [HO.o, this]; rfl))
            have HM0 := hd hm0
            obtain rfl := hm0
            go_wp2
            go_ret2
            exact ⟨retTE (by rw [HR.o.1, HZ.o.1]; rfl) (by rw [HR.o.2, HZ.o.2]), hbe⟩
          · obtain ⟨m', rfl⟩ : ∃ m', m = m' + 1 := ⟨m - 1, by omega⟩
            clear hm0
            obtain ⟨g, rfl, _, hg, hmc, hcm, hcell, _⟩ := hr.at_ (by omega)
            unfold maxLen at hcm
            have hlast := hcell m' _ (enc8_get O m' (by rw [HM.o]; omega))
            have e1 : ((m' + 1 : Nat) : Int) - 1 = (m' : Int) := by omega
            by_cases h32 : bt O m' = 32
            · have H32 := hd h32
              rw [h32] at hlast
              clear h32
              have hfin : sqz s.data.toList = O.take m' := by unfold sqz; rw [HO.o]; exact trimE_yes HM.o H32.o
              have hlen : (O.take m').length = m' := by rw [List.length_take, HM.o]; omega
              have HFN := hd hfin
              have HLN := hd hlen
              clear hfin
              have hv := run_convert_bytes_back (P := Tryz.prog) wr 27 9 5 ⟨g, 0, none⟩ c (O.take m') Tryz.underlying27 Tryz.underlying5 Tryz.underlying9 (fun j hj => by
                have hjO : j < O.length := by rw [HLN.o] at hj; rw [HM.o]; omega
                have := hcell j _ (enc8_get O j hjO)
                rw [bt_list O j hjO] at this
                have hp : (⟨g, 0, none⟩ : Addr).add j = ⟨g, j, none⟩ := by unfold Addr.add; split <;> simp_all
                rw [hp]
                simpa using this)
              rw [hlen] at hv
              clear hlen
              by_cases q0 : m' = 0
              · have HZ := hd (cleanB_0 _ HCL.o (by rw [HFN.o]; exact List.eq_nil_of_length_eq_zero (HLN.o.trans q0)))
                subst q0
                clear hv
                go_wp2
                go_ret2
                exact ⟨retTE (by rw [HR.o.1, HZ.o.1]; rfl) (by rw [HR.o.2, HZ.o.2]), hbe⟩
              · have n0 : ((m' : Int) == 0) = false := by simp; omega
                have q0p : 1 ≤ m' := by omega
                clear q0
                by_cases q1 : 64 < m'
                · clear hv
                  have HZ := hd (cleanB_64 _ HCL.o (by rw [HFN.o, HLN.o]; omega))
                  go_wp2
                  go_ret2
                  exact ⟨retTE (by rw [HR.o.1, HZ.o.1]; rfl) (by rw [HR.o.2, HZ.o.2]), hbe⟩
                · have HZ := hd (cleanB_ok _ HCL.o (by rw [HFN.o, HLN.o]; omega) (by rw [HFN.o, HLN.o]; omega))
                  go_wp2
                  go_ret2
                  exact ⟨retTE (by rw [HR.o.1, HZ.o.1, HFN.o]; rfl) (by rw [HR.o.2, HZ.o.2]), hbe⟩
            · have n32 : ((bt O m' : Int) == 32) = false := by simp; omega
              have H32 := hd h32
              clear h32
              have hfin : sqz s.data.toList = O := by unfold sqz; rw [HO.o]; exact trimE_no HM.o H32.o
              have hlen : (O).length = m' + 1 := HM.o
              have HFN := hd hfin
              have HLN := hd hlen
              clear hfin
              have hv := run_convert_bytes_back (P := Tryz.prog) wr 27 9 5 ⟨g, 0, none⟩ c (O) Tryz.underlying27 Tryz.underlying5 Tryz.underlying9 (fun j hj => by
                have hjO : j < O.length := by rw [HLN.o] at hj; rw [HM.o]; omega
                have := hcell j _ (enc8_get O j hjO)
                rw [bt_list O j hjO] at this
                have hp : (⟨g, 0, none⟩ : Addr).add j = ⟨g, j, none⟩ := by unfold Addr.add; split <;> simp_all
                rw [hp]
                simpa using this)
              rw [hlen] at hv
              clear hlen
              by_cases q1 : 64 < m' + 1
              · clear hv
                have HZ := hd (cleanB_64 _ HCL.o (by rw [HFN.o, HLN.o]; omega))
                go_wp2
                go_ret2
                exact ⟨retTE (by rw [HR.o.1, HZ.o.1]; rfl) (by rw [HR.o.2, HZ.o.2]), hbe⟩
              · have HZ := hd (cleanB_ok _ HCL.o (by rw [HFN.o, HLN.o]; omega) (by rw [HFN.o, HLN.o]; omega))
                go_wp2
                go_ret2
                exact ⟨retTE (by rw [HR.o.1, HZ.o.1, HFN.o]; rfl) (by rw [HR.o.2, HZ.o.2]), hbe⟩

end Go.Proofs.YtogjokofmfpmgaaGreatDoor
namespace Go.Proofs.YtogjokofmfpmgaaGreatDoor
open Go.RowKit

/-- The last @. -/
def LastAt (l : List UInt8) (q : Nat) : Prop := q < l.length ∧ bt l q = 64 ∧ ∀ j, q < j → j < l.length → bt l j ≠ 64
theorem lastAt_split {l : List UInt8} {q : Nat} (h : LastAt l q) : l = l.take q ++ 64 :: l.drop (q + 1) := by
  obtain ⟨h1, h2, _⟩ := h
  have h64 : l[q] = 64 := by
    rw [bt_list l q h1] at h2
    exact UInt8.toNat_inj.1 h2
  conv => lhs; rw [← List.take_append_drop q l, List.drop_eq_getElem_cons h1, h64]
theorem lastAt_aft {l : List UInt8} {q : Nat} (h : LastAt l q) : (64 : UInt8) ∉ l.drop (q + 1) := by
  intro hm
  obtain ⟨i, hi, e⟩ := mem_bt hm
  rw [bt_drop] at e
  rw [List.length_drop] at hi
  exact h.2.2 (q + 1 + i) (by omega) (by omega) (by rw [e]; rfl)
theorem app_uniq (c : UInt8) : ∀ (a b a' b' : List UInt8), a ++ c :: b = a' ++ c :: b' → c ∉ a → c ∉ b' → c ∉ b → a = a' ∧ b = b'
  | [], b, [], b', h, _, _, _ => by simpa using h
  | [], b, x :: a', b', h, _, _, hb => by
    simp only [List.nil_append, List.cons_append, List.cons.injEq] at h
    exact absurd (h.2 ▸ by simp) hb
  | x :: a, b, [], b', h, ha, _, _ => by
    simp only [List.nil_append, List.cons_append, List.cons.injEq] at h
    exact absurd (by simp [h.1]) ha
  | x :: a, b, y :: a', b', h, ha, hb', hb => by
    simp only [List.cons_append, List.cons.injEq] at h
    simp only [List.mem_cons, not_or] at ha
    have := app_uniq c a b a' b' h.2 ha.2 hb' hb
    exact ⟨by rw [h.1, this.1], this.2⟩
/-- Of an address the last @ is the first one. -/
theorem addr_last {l : List UInt8} {q : Nat} (h : AddrP l) (hq : LastAt l q) : bef 64 l = l.take q ∧ aft 64 l = l.drop (q + 1) := by
  have e1 := bef_aft 64 l h.2.1
  have e2 := lastAt_split hq
  exact app_uniq 64 _ _ _ _ (e1.symm.trans e2) (bef_not 64 l) (lastAt_aft hq) (dom_no_at h.2.2.2)
theorem addr_at {l : List UInt8} {q : Nat} (hq : LastAt l q) (h1 : l.length ≤ 64) (ha : LocP (l.take q)) (hb : DomP (l.drop (q + 1))) : AddrP l ∧ bef 64 l = l.take q ∧ aft 64 l = l.drop (q + 1) := by
  have e2 := lastAt_split hq
  have := addr_of_parts (a := l.take q) (b := l.drop (q + 1)) (by rw [← e2]; exact h1) ha hb
  rw [← e2] at this
  exact this
theorem no_at {l : List UInt8} (h : ∀ j, j < l.length → bt l j ≠ 64) : (64 : UInt8) ∉ l := fun hm => by
  obtain ⟨i, hi, e⟩ := mem_bt hm
  exact h i hi (by rw [e]; rfl)

def SeekAt (l : List UInt8) (k : Nat) (p : Int) : Prop := (p = -1 ∧ ∀ j, j < k → bt l j ≠ 64) ∨ (∃ q : Nat, p = q ∧ q < k ∧ bt l q = 64 ∧ ∀ j, q < j → j < k → bt l j ≠ 64)
theorem seek_yes {l : List UInt8} {k : Nat} (hc : bt l k = 64) : SeekAt l (k + 1) k := .inr ⟨k, rfl, by omega, hc, fun j h1 h2 => by omega⟩
theorem seek_no {l : List UInt8} {k : Nat} {p : Int} (h : SeekAt l k p) (hc : bt l k ≠ 64) : SeekAt l (k + 1) p := by
  rcases h with ⟨h1, h2⟩ | ⟨q, h1, h2, h3, h4⟩
  · refine .inl ⟨h1, fun j hj => ?_⟩
    by_cases e : j = k
    · subst e; exact hc
    · exact h2 j (by omega)
  · refine .inr ⟨q, h1, by omega, h3, fun j h5 h6 => ?_⟩
    by_cases e : j = k
    · subst e; exact hc
    · exact h4 j h5 (by omega)

set_option maxRecDepth 100000 in
set_option maxHeartbeats 4000000 in
theorem rparts_calls (s : ByteArray) (hs : s.size ≤ 1000000000) (w : World) : Calls Tryz.prog 174 #[.string s] w fun e w' => e = .returned (.tuple #[.string (bs (partA s.data.toList)), .string (bs (partB s.data.toList)), .bool (addrB s.data.toList)]) ∧ Below w.heap.size w w' := by
  obtain ⟨V, hV⟩ : ∃ V, Value.tuple #[.string (bs (partA s.data.toList)), .string (bs (partB s.data.toList)), .bool (addrB s.data.toList)] = V := ⟨_, rfl⟩
  rw [hV]
  have HNO := hd (fun (h : ¬ AddrP s.data.toList) => by rw [← hV, ← (part_no h).1, ← (part_no h).2.1, ← (part_no h).2.2] : ¬ AddrP s.data.toList → V = .tuple #[.string (bs []), .string (bs []), .bool false])
  have HYES := hd (fun (h : AddrP s.data.toList) => by rw [← hV, ← (part_yes h).1, ← (part_yes h).2.1, ← (part_yes h).2.2] : AddrP s.data.toList → V = .tuple #[.string (bs (bef 64 s.data.toList)), .string (bs (aft 64 s.data.toList)), .bool true])
  clear hV
  have HL := hd (show s.data.toList.length = s.size by simp)
  go_enter Tryz.func174, Tryz.ntmps174
  go_wp2_with fail
  go_loop [5, 6] (fun a i => ∃ k : Nat, i = .int .i64 k ∧ k ≤ s.size ∧ ∃ p : Int, a = .int .i64 p ∧ Hd (SeekAt s.data.toList k p)) (fun _ i => s.size - (intOf i).toNat)
  case atStart => exact ⟨0, rfl, Nat.zero_le _, -1, rfl, .inl ⟨rfl, fun j h => absurd h (Nat.not_lt_zero _)⟩⟩
  case round =>
    obtain ⟨k, rfl, hk, p, rfl, hh⟩ := hrel
    have hki : (0 : Int) ≤ (k : Int) := by omega
    by_cases hlt : k < s.size
    · by_cases hc : s[k].toNat = 64
      · have n64 : ((s[k].toNat : Int) == 64) = true := by simp; omega
        have HN := hd (seek_yes (l := s.data.toList) ((bt_self s k hlt).trans hc))
        clear hc
        go_wp2
        go_round
        case rel => exact ⟨k + 1, by go_num, by omega, k, rfl, HN⟩
        case measure => simp [intOf]; omega
      · have n64 : ((s[k].toNat : Int) == 64) = false := by simp; omega
        have HN := hd (seek_no hh.o (by rw [bt_self s k hlt]; exact hc))
        clear hc
        go_wp2
        go_round
        case rel => exact ⟨k + 1, by go_num, by omega, p, rfl, HN⟩
        case measure => simp [intOf]; omega
    · have hke : k = s.size := by omega
      subst hke
      rcases hh.o with ⟨rfl, h2⟩ | ⟨q, rfl, h1, h2, h3⟩
      · have HX := hd (HNO.o (fun h => no_at (by rw [HL.o]; exact h2) h.2.1))
        clear h2
        go_wp2
        go_ret3
        exact ⟨by rw [HX.o]; rfl, Below.refl _ _⟩
      · have HQ := hd (⟨by rw [HL.o]; exact h1, h2, by rw [HL.o]; exact h3⟩ : LastAt s.data.toList q)
        clear h2 h3 hh hk
        by_cases c1 : 64 < s.size
        · have HX := hd (HNO.o (fun h => by have := h.1; rw [HL.o] at this; omega))
          go_wp2
          go_ret3
          exact ⟨by rw [HX.o]; rfl, Below.refl _ _⟩
        have hz1 : (s.extract 0 q).size ≤ 1000000000 := by rw [ByteArray.size_extract]; omega
        have hz2 : (s.extract (q + 1) s.size).size ≤ 1000000000 := by rw [ByteArray.size_extract]; omega
        have hl := rlocal_calls (s.extract 0 q) hz1 w
        have hd2 := domain_calls (s.extract (q + 1) s.size) hz2 w
        have e1 : (s.extract 0 q).data.toList = s.data.toList.take q := by rw [ext_data, List.drop_zero, Nat.sub_zero]
        have e2 : (s.extract (q + 1) s.size).data.toList = s.data.toList.drop (q + 1) := by
          rw [ext_data]; exact List.take_of_length_le (by rw [List.length_drop, HL.o]; exact Nat.le_refl _)
        have b1 : s.extract 0 q = bs (s.data.toList.take q) := by rw [← e1]; exact (bs_self _).symm
        have b2 : s.extract (q + 1) s.size = bs (s.data.toList.drop (q + 1)) := by rw [← e2]; exact (bs_self _).symm
        have BE := hd (⟨b1, b2⟩ : s.extract 0 q = bs (s.data.toList.take q) ∧ s.extract (q + 1) s.size = bs (s.data.toList.drop (q + 1)))
        clear hz1 hz2 b1 b2
        rw [e1] at hl
        rw [e2] at hd2
        clear e1 e2
        by_cases c2 : LocP (s.data.toList.take q)
        · rw [locB_t c2] at hl
          have H2 := hd hl
          by_cases c3 : DomP (s.data.toList.drop (q + 1))
          · rw [domB_t c3] at hd2
            have H3 := hd hd2
            have HA := hd (addr_at HQ.o (by rw [HL.o]; omega) c2 c3)
            have HX := hd (HYES.o HA.o.1)
            clear hl hd2 c2 c3
            go_wp2_with fail
            refine H2.o.mono ?_
            rintro e w' ⟨rfl, rfl⟩
            go_wp2_with fail
            refine H3.o.mono ?_
            rintro e w' ⟨rfl, rfl⟩
            have hwr : IntKind.i64.wrap ((q : Int) + 1) = (q : Int) + 1 := IntWalk.i64_in _ (by omega)
            have hq0 : (0 : Int) ≤ (q : Int) + 1 := by omega
            have hq1 : ((q : Int) + 1).toNat = q + 1 := by omega
            have hq2 : (0 : Int) ≤ (q : Int) := by omega
            have hq3 : (q : Int) + 1 ≤ (s.size : Int) := by omega
            go_wp2_with fail
            go_quiet (fail)
            go_wp2
            go_ret3
            refine ⟨?_, bdrewN (Below.refl _ _) _⟩
            rw [HX.o, HA.o.2.1, HA.o.2.2, ← BE.o.1, ← BE.o.2]
            rfl
          · rw [domB_f c3] at hd2
            have H3 := hd hd2
            have HX := hd (HNO.o (fun h => c3 (by have e := (addr_last h HQ.o).2; rw [← e]; exact h.2.2.2)))
            clear hl hd2 c2 c3
            go_wp2_with fail
            refine H2.o.mono ?_
            rintro e w' ⟨rfl, rfl⟩
            go_wp2_with fail
            refine H3.o.mono ?_
            rintro e w' ⟨rfl, rfl⟩
            go_wp2_with fail
            go_ret3
            exact ⟨by rw [HX.o]; rfl, Below.refl _ _⟩
        · rw [locB_f c2] at hl
          have H2 := hd hl
          have HX := hd (HNO.o (fun h => c2 (by have e := (addr_last h HQ.o).1; rw [← e]; exact h.2.2.1)))
          clear hl hd2 c2
          go_wp2_with fail
          refine H2.o.mono ?_
          rintro e w' ⟨rfl, rfl⟩
          go_wp2_with fail
          go_ret3
          exact ⟨by rw [HX.o]; rfl, Below.refl _ _⟩

theorem is_calls (s : ByteArray) (hs : s.size ≤ 1000000000) (w : World) (ht : Tbl w) : Calls Tryz.prog 158 #[.string s] w fun e w' => e = .returned (.bool (addrB s.data.toList)) ∧ Below w.heap.size w w' := by
  have HC := hd (parts_calls s hs w ht)
  clear ht
  go_enter Tryz.func158, Tryz.ntmps158
  go_wp2_with fail
  refine HC.o.mono ?_
  rintro e w1 ⟨rfl, hb1⟩
  go_wp2_with fail
  go_ret
  exact ⟨rfl, hb1⟩
theorem ris_calls (s : ByteArray) (hs : s.size ≤ 1000000000) (w : World) : Calls Tryz.prog 150 #[.string s] w fun e w' => e = .returned (.bool (addrB s.data.toList)) ∧ Below w.heap.size w w' := by
  have HC := hd (rparts_calls s hs w)
  go_enter Tryz.func150, Tryz.ntmps150
  go_wp2_with fail
  refine HC.o.mono ?_
  rintro e w1 ⟨rfl, hb1⟩
  go_wp2_with fail
  go_ret
  exact ⟨rfl, hb1⟩

end Go.Proofs.YtogjokofmfpmgaaGreatDoor
namespace Go.Proofs.YtogjokofmfpmgaaGreatDoor
open Go.RowKit Go.Sort

/-- What stands behind the last @, as small signs. -/
def lfold : List UInt8 → List UInt8
  | [] => []
  | c :: r => if 64 ∈ r then c :: lfold r else if c = 64 then c :: foldL r else c :: r
theorem lfold_no : ∀ l : List UInt8, (64 : UInt8) ∉ l → lfold l = l
  | [], _ => rfl
  | c :: r, h => by
    simp only [List.mem_cons, not_or] at h
    rw [lfold, if_neg h.2, if_neg (fun e => h.1 e.symm)]
theorem lfold_at : ∀ (a b : List UInt8), (64 : UInt8) ∉ b → lfold (a ++ 64 :: b) = a ++ 64 :: foldL b
  | [], b, h => by rw [List.nil_append, lfold, if_neg h, if_pos rfl]; rfl
  | x :: a, b, h => by
    rw [List.cons_append, lfold, if_pos (by simp), lfold_at a b h]; rfl
theorem lfold_last {l : List UInt8} {q : Nat} (h : LastAt l q) : lfold l = l.take q ++ 64 :: foldL (l.drop (q + 1)) := by
  conv => lhs; rw [lastAt_split h]
  exact lfold_at _ _ (lastAt_aft h)
theorem foldL_64 (c : UInt8) : lowU c = 64 → c = 64 := by
  intro h
  unfold lowU at h
  split at h
  · next hc =>
    have := congrArg UInt8.toNat h
    rw [UInt8.toNat_add, show (32 : UInt8).toNat = 32 from rfl, show (64 : UInt8).toNat = 64 from rfl] at this
    omega
  · exact h
theorem fold_no {l : List UInt8} (h : (64 : UInt8) ∉ l) : (64 : UInt8) ∉ foldL l := by
  intro hm
  obtain ⟨c, hc, e⟩ := List.mem_map.1 hm
  exact h (foldL_64 c e ▸ hc)
theorem foldL_len (l : List UInt8) : (foldL l).length = l.length := by simp [foldL]
open Classical in
noncomputable def canT (l : List UInt8) : List UInt8 := if cleanE l = 0 ∧ AddrP (lfold (cleanT l)) then lfold (cleanT l) else []
open Classical in
noncomputable def canE (l : List UInt8) : Int := if cleanE l = 0 then (if AddrP (lfold (cleanT l)) then 0 else 1) else cleanE l
theorem can_e {l : List UInt8} (h : cleanE l ≠ 0) : canT l = [] ∧ canE l = cleanE l := by simp [canT, canE, h]
theorem can_yes {l : List UInt8} (h : cleanE l = 0) (k : AddrP (lfold (cleanT l))) : canT l = lfold (cleanT l) ∧ canE l = 0 := by simp [canT, canE, h, k]
theorem can_no {l : List UInt8} (h : cleanE l = 0) (k : ¬ AddrP (lfold (cleanT l))) : canT l = [] ∧ canE l = 1 := by simp [canT, canE, h, k]
theorem cleanT_len (l : List UInt8) : (cleanT l).length ≤ 64 := by
  unfold cleanT
  repeat' split
  all_goals first | (simp; done) | omega
theorem bs_ext (l : List UInt8) (a b : Nat) : (bs l).extract a b = bs ((l.drop a).take (b - a)) := by
  have := ext_data (bs l) a b
  rw [bs_data] at this
  rw [← this]
  exact (bs_self _).symm
theorem bs_app2 (a b : List UInt8) : bs a ++ bs b = bs (a ++ b) := by
  apply ByteArray.ext; simp [bs]

/-- What the text is behind the folding, from whichever place. -/
def Folded (T : List UInt8) (a : Nat) (C : List UInt8) : Prop := T.take a ++ foldL (T.drop a) = C ∧ (AddrP C → C = lfold T) ∧ (AddrP (lfold T) → AddrP C)
theorem folded_at {T : List UInt8} {q : Nat} (h : LastAt T q) : ∃ C, Folded T (q + 1) C := by
  refine ⟨lfold T, ?_, fun _ => rfl, fun h => h⟩
  rw [lfold_last h]
  have hq := h.1
  have h64 : T[q] = 64 := by
    have := h.2.1
    rw [bt_list T q hq] at this
    exact UInt8.toNat_inj.1 this
  have : T.take (q + 1) = T.take q ++ [64] := by rw [List.take_succ_eq_append_getElem hq, h64]
  rw [this]; simp
theorem folded_from {T : List UInt8} {q : Nat} (h : LastAt T q) : ∃ C, Folded T q C := by
  refine ⟨lfold T, ?_, fun _ => rfl, fun h => h⟩
  rw [lfold_last h]
  have hq := h.1
  have h64 : T[q] = 64 := by
    have := h.2.1
    rw [bt_list T q hq] at this
    exact UInt8.toNat_inj.1 this
  rw [List.drop_eq_getElem_cons hq, h64]
  rfl
theorem folded_none {T : List UInt8} (h : (64 : UInt8) ∉ T) : ∃ C, Folded T 0 C :=
  ⟨foldL T, by simp, fun hA => absurd hA.2.1 (fold_no h), fun hA => absurd hA.2.1 (by rw [lfold_no T h]; exact h)⟩
theorem folded_end {T : List UInt8} (h : (64 : UInt8) ∉ T) : ∃ C, Folded T T.length C :=
  ⟨T, by simp [foldL], fun hA => absurd hA.2.1 h, fun hA => absurd hA.2.1 (by rw [lfold_no T h]; exact h)⟩
theorem lastIx_calls (T : List UInt8) (h : T.length ≤ 64) (w : World) : Calls Tryz.prog 156 #[.string (bs T), .int .u8 64] w fun e w' => (∃ a : Nat, e = .returned (.int .i64 ((a : Int) - 1)) ∧ a ≤ T.length ∧ ∃ C, Folded T a C) ∧ w = w' := by
  refine (Any.strings_LastIndexByte lays149 (bs T) 64 (by rw [bs_size]; omega) w).mono ?_
  rintro e w' ⟨rfl, rfl⟩
  refine ⟨?_, rfl⟩
  have key : ∀ j, j < T.length → (((bs T).data[j]!).toNat : Int) = (bt T j : Int) := fun j hj => by
    simp [bs, bt, List.getD_eq_getElem?_getD, hj]
  rcases Lib.lastIndexByte_spec (bs T) 64 with ⟨e, hn⟩ | ⟨i, hi, e, hc, hn⟩
  · rw [bs_size] at hn
    exact ⟨0, by rw [e]; rfl, by omega, folded_none (no_at (fun j hj h64 => hn j hj (by rw [key j hj, h64]; rfl)))⟩
  · rw [bs_size] at hi hn
    refine ⟨i + 1, by rw [e]; simp, by omega, folded_at ⟨hi, ?_, fun j h1 h2 h64 => hn j h1 h2 (by rw [key j h2, h64]; rfl)⟩⟩
    have := hc
    rw [key i hi] at this
    omega

set_option maxRecDepth 100000 in
set_option maxHeartbeats 4000000 in
theorem canon_calls (s : ByteArray) (hs : s.size ≤ 1000000) (w : World) (ht : Tbl w) : Calls Tryz.prog 141 #[.string s] w fun e w' => e = .returned (.tuple #[.string (bs (canT s.data.toList)), .int .i64 (canE s.data.toList)]) ∧ Below w.heap.size w w' := by
  have HT := hd ht
  clear ht
  have C1 := hd (clean_calls s hs w (HT.o))
  obtain ⟨V, hV⟩ : ∃ V, canT s.data.toList = V := ⟨_, rfl⟩
  obtain ⟨F, hF⟩ : ∃ F, canE s.data.toList = F := ⟨_, rfl⟩
  rw [hV, hF]
  have HR := hd (⟨hV.symm, hF.symm⟩ : V = canT s.data.toList ∧ F = canE s.data.toList)
  clear hV hF
  have hl := cleanT_len s.data.toList
  have R1 := hd (fun h : cleanE s.data.toList ≠ 0 => can_e h)
  have R2 := hd (fun (h : cleanE s.data.toList = 0) k => can_yes h k)
  have R3 := hd (fun (h : cleanE s.data.toList = 0) k => can_no h k)
  obtain ⟨T, hT⟩ : ∃ T, cleanT s.data.toList = T := ⟨_, rfl⟩
  obtain ⟨E, hE⟩ : ∃ E, cleanE s.data.toList = E := ⟨_, rfl⟩
  rw [hT, hE] at C1 R2 R3
  rw [hE] at R1
  rw [hT] at hl
  clear hT hE
  by_cases hE0 : E = 0
  · have HE := hd hE0
    subst hE0
    have hz : (bs T).size = T.length := bs_size T
    have HZ := hd hz
    clear hz
    have hz1 : (bs T).size ≤ 64 := by rw [HZ.o]; exact hl
    go_enter Tryz.func141, Tryz.ntmps141
    go_wp2_with fail
    refine C1.o.mono ?_
    rintro e w1 ⟨rfl, hb1⟩
    have B1 := hd hb1
    clear hb1
    go_wp2_with fail
    refine (lastIx_calls T hl w1).mono ?_
    rintro e w' ⟨⟨a, rfl, hal, C, hC⟩, rfl⟩
    have HC := hd hC
    clear hC
    have hsum : (a : Int) - 1 + 1 = (a : Int) := by omega
    go_wp2_with fail
    have ha0 : (0 : Int) ≤ (a : Int) := by omega
    have ha1 : (a : Int) ≤ ((bs T).size : Int) := by rw [HZ.o]; omega
    have hzz : ((bs T).extract a (bs T).size).size ≤ 1000000000 := by rw [ByteArray.size_extract]; omega
    have FC := fold_calls ((bs T).extract a (bs T).size) hzz
    have ef : ((bs T).extract a (bs T).size).data.toList = T.drop a := by
      rw [ext_data, bs_data]; exact List.take_of_length_le (by rw [List.length_drop, HZ.o]; exact Nat.le_refl _)
    rw [ef] at FC
    clear hzz
    have D1 := hd (fun dd os => Calls.regrown_of (FC (grow (redrawn w1 dd) os)))
    have z1 : (bs (foldL (T.drop a))).size ≤ 64 := by rw [bs_size, foldL_len, List.length_drop]; omega
    have z2 : ((bs T).extract 0 a).size ≤ 64 := by rw [ByteArray.size_extract]; omega
    clear FC ef
    refine wp_region_quiet_below (by kernel_rfl) (by kernel_rfl) ?_
    repeat (go_big_quiet_step (exact D1.o _ _))
    refine wpQuiet_nil ?_
    intro w2 hw'
    have hb2 : Below w1.heap.size w1 w2 := by
      obtain ⟨⟨dq, osq⟩, hw''⟩ := hw'
      subst hw''
      exact below_regrown w1 dq osq
    have B2 := hd (B1.o.trans (hb2.mono B1.o.size))
    clear hw' hb2
    have e4 : (bs T).extract 0 a ++ bs (foldL (T.drop a)) = bs C := by
      rw [bs_ext, List.drop_zero, Nat.sub_zero, bs_app2, HC.o.1]
    rw [e4]
    clear e4 z1 z2
    have hIS := is_calls (bs C) (by rw [bs_size, ← HC.o.1, List.length_append, foldL_len, List.length_take, List.length_drop]; omega) w2 (HT.o.below B2.o)
    rw [bs_data] at hIS
    by_cases hA : AddrP C
    · rw [addrB_t hA] at hIS
      have HX := hd (R2.o trivial (HC.o.2.1 hA ▸ hA))
      have HCL := hd (HC.o.2.1 hA)
      have HIS := hd hIS
      clear hIS hA
      go_wp2_with fail
      refine HIS.o.mono ?_
      rintro e w3 ⟨rfl, hb3⟩
      go_wp2_with fail
      go_ret2
      exact ⟨retTE (by rw [HR.o.1, HX.o.1, ← HCL.o]) (by rw [HR.o.2, HX.o.2]), B2.o.trans (hb3.mono B2.o.size)⟩
    · rw [addrB_f hA] at hIS
      have HX := hd (R3.o trivial (fun h => hA (HC.o.2.2 h)))
      have HIS := hd hIS
      clear hIS hA
      go_wp2_with fail
      refine HIS.o.mono ?_
      rintro e w3 ⟨rfl, hb3⟩
      go_wp2_with fail
      go_ret2
      exact ⟨retTE (by rw [HR.o.1, HX.o.1]; rfl) (by rw [HR.o.2, HX.o.2]), B2.o.trans (hb3.mono B2.o.size)⟩
  · have n0 : (E != 0) = true := by simpa using hE0
    have H0 := hd (R1.o hE0)
    clear hE0
    go_enter Tryz.func141, Tryz.ntmps141
    go_wp2_with fail
    refine C1.o.mono ?_
    rintro e w1 ⟨rfl, hb1⟩
    go_wp2_with fail
    go_ret2
    exact ⟨retTE (by rw [HR.o.1, H0.o.1]; rfl) (by rw [HR.o.2, H0.o.2]), hb1⟩

set_option maxRecDepth 100000 in
set_option maxHeartbeats 4000000 in
theorem rmail_calls (s : ByteArray) (hs : s.size ≤ 1000000) (w : World) : Calls Tryz.prog 131 #[.string s] w fun e w' => e = .returned (.tuple #[.string (bs (canT s.data.toList)), .int .i64 (canE s.data.toList)]) ∧ Below w.heap.size w w' := by
  have C1 := hd (rclean_calls s hs w)
  obtain ⟨V, hV⟩ : ∃ V, canT s.data.toList = V := ⟨_, rfl⟩
  obtain ⟨F, hF⟩ : ∃ F, canE s.data.toList = F := ⟨_, rfl⟩
  rw [hV, hF]
  have HR := hd (⟨hV.symm, hF.symm⟩ : V = canT s.data.toList ∧ F = canE s.data.toList)
  clear hV hF
  have hl := cleanT_len s.data.toList
  have R1 := hd (fun h : cleanE s.data.toList ≠ 0 => can_e h)
  have R2 := hd (fun (h : cleanE s.data.toList = 0) k => can_yes h k)
  have R3 := hd (fun (h : cleanE s.data.toList = 0) k => can_no h k)
  obtain ⟨T, hT⟩ : ∃ T, cleanT s.data.toList = T := ⟨_, rfl⟩
  obtain ⟨E, hE⟩ : ∃ E, cleanE s.data.toList = E := ⟨_, rfl⟩
  rw [hT, hE] at C1 R2 R3
  rw [hE] at R1
  rw [hT] at hl
  clear hT hE
  by_cases hE0 : E = 0
  · have HE := hd hE0
    subst hE0
    have hz : (bs T).size = T.length := bs_size T
    have HZ := hd hz
    clear hz
    have hz1 : (bs T).size ≤ 64 := by rw [HZ.o]; exact hl
    go_enter Tryz.func131, Tryz.ntmps131
    go_wp2_with fail
    refine C1.o.mono ?_
    rintro e w1 ⟨rfl, hb1⟩
    have B1 := hd hb1
    clear hb1
    go_wp2_with fail
    go_loop [6, 7] (fun x i => ∃ k a : Nat, i = .int .i64 k ∧ x = .int .i64 a ∧ k ≤ (bs T).size ∧ Hd (∃ p : Int, SeekAt T k p ∧ ((p = -1 ∧ a = T.length) ∨ p = a))) (fun _ i => (bs T).size - (intOf i).toNat)
    case atStart => exact ⟨0, (bs T).size, rfl, rfl, Nat.zero_le _, -1, .inl ⟨rfl, fun j h => absurd h (Nat.not_lt_zero _)⟩, .inl ⟨rfl, HZ.o⟩⟩
    case round =>
      obtain ⟨k, a, rfl, rfl, hk, hh⟩ := hrel
      have hki : (0 : Int) ≤ (k : Int) := by omega
      by_cases hlt : k < (bs T).size
      · have BK := hd (bt_self (bs T) k hlt)
        rw [bs_data] at BK
        by_cases hc : (bs T)[k].toNat = 64
        · have n64 : (((bs T)[k].toNat : Int) == 64) = true := by simp; omega
          have HN : Hd (∃ p : Int, SeekAt T (k + 1) p ∧ ((p = -1 ∧ k = T.length) ∨ p = k)) := ⟨k, seek_yes (BK.o.trans hc), .inr rfl⟩
          clear hc
          go_wp2
          go_round
          case rel => exact ⟨k + 1, k, by go_num, rfl, by omega, HN⟩
          case measure => simp [intOf]; omega
        · have n64 : (((bs T)[k].toNat : Int) == 64) = false := by simp; omega
          have HN : Hd (∃ p : Int, SeekAt T (k + 1) p ∧ ((p = -1 ∧ a = T.length) ∨ p = a)) := by
            obtain ⟨p, h1, h2⟩ := hh.o
            exact ⟨p, seek_no h1 (by rw [BK.o]; exact hc), h2⟩
          clear hc
          go_wp2
          go_round
          case rel => exact ⟨k + 1, a, by go_num, rfl, by omega, HN⟩
          case measure => simp [intOf]; omega
      · have hke : k = (bs T).size := by omega
        have hC : a ≤ T.length ∧ ∃ C, Folded T a C := by
          obtain ⟨p, hseek, hx⟩ := hh.o
          rw [hke, HZ.o] at hseek
          rcases hseek with ⟨hp, hn⟩ | ⟨q, hp, h1, h2, h3⟩
          · rcases hx with ⟨_, rfl⟩ | hp'
            · exact ⟨Nat.le_refl _, folded_end (no_at hn)⟩
            · omega
          · rcases hx with ⟨hp', _⟩ | hp'
            · omega
            · obtain rfl : a = q := by omega
              exact ⟨by omega, folded_from ⟨h1, h2, h3⟩⟩
        obtain ⟨hal, C, hC⟩ := hC
        have HC := hd hC
        clear hC hke
        go_wp2_with fail
        have ha0 : (0 : Int) ≤ (a : Int) := by omega
        have ha1 : (a : Int) ≤ ((bs T).size : Int) := by rw [HZ.o]; omega
        have hzz : ((bs T).extract a (bs T).size).size ≤ 1000000000 := by rw [ByteArray.size_extract]; omega
        have FC := rfold_calls ((bs T).extract a (bs T).size) hzz
        have ef : ((bs T).extract a (bs T).size).data.toList = T.drop a := by
          rw [ext_data, bs_data]; exact List.take_of_length_le (by rw [List.length_drop, HZ.o]; exact Nat.le_refl _)
        rw [ef] at FC
        clear hzz
        have D1 := hd (fun dd os => Calls.regrown_of (FC (grow (redrawn w1 dd) os)))
        have z1 : (bs (foldL (T.drop a))).size ≤ 64 := by rw [bs_size, foldL_len, List.length_drop]; omega
        have z2 : ((bs T).extract 0 a).size ≤ 64 := by rw [ByteArray.size_extract]; omega
        clear FC ef
        refine wp_region_quiet_below (by kernel_rfl) (by kernel_rfl) ?_
        repeat (go_big_quiet_step (exact D1.o _ _))
        refine wpQuiet_nil ?_
        intro w2 hw'
        have hb2 : Below w1.heap.size w1 w2 := by
          obtain ⟨⟨dq, osq⟩, hw''⟩ := hw'
          subst hw''
          exact below_regrown w1 dq osq
        have B2 := hd (B1.o.trans (hb2.mono B1.o.size))
        clear hw' hb2
        have e4 : (bs T).extract 0 a ++ bs (foldL (T.drop a)) = bs C := by
          rw [bs_ext, List.drop_zero, Nat.sub_zero, bs_app2, HC.o.1]
        rw [e4]
        clear e4 z1 z2
        have hIS := ris_calls (bs C) (by rw [bs_size, ← HC.o.1, List.length_append, foldL_len, List.length_take, List.length_drop]; omega) w2
        rw [bs_data] at hIS
        by_cases hA : AddrP C
        · rw [addrB_t hA] at hIS
          have HX := hd (R2.o trivial (HC.o.2.1 hA ▸ hA))
          have HCL := hd (HC.o.2.1 hA)
          have HIS := hd hIS
          clear hIS hA
          go_wp2_with fail
          refine HIS.o.mono ?_
          rintro e w3 ⟨rfl, hb3⟩
          go_wp2_with fail
          go_ret2
          exact ⟨retTE (by rw [HR.o.1, HX.o.1, ← HCL.o]) (by rw [HR.o.2, HX.o.2]), B2.o.trans (hb3.mono B2.o.size)⟩
        · rw [addrB_f hA] at hIS
          have HX := hd (R3.o trivial (fun h => hA (HC.o.2.2 h)))
          have HIS := hd hIS
          clear hIS hA
          go_wp2_with fail
          refine HIS.o.mono ?_
          rintro e w3 ⟨rfl, hb3⟩
          go_wp2_with fail
          go_ret2
          exact ⟨retTE (by rw [HR.o.1, HX.o.1]; rfl) (by rw [HR.o.2, HX.o.2]), B2.o.trans (hb3.mono B2.o.size)⟩
  · have n0 : (E != 0) = true := by simpa using hE0
    have H0 := hd (R1.o hE0)
    clear hE0
    go_enter Tryz.func131, Tryz.ntmps131
    go_wp2_with fail
    refine C1.o.mono ?_
    rintro e w1 ⟨rfl, hb1⟩
    go_wp2_with fail
    go_ret2
    exact ⟨retTE (by rw [HR.o.1, H0.o.1]; rfl) (by rw [HR.o.2, H0.o.2]), hb1⟩

end Go.Proofs.YtogjokofmfpmgaaGreatDoor
namespace Go.Proofs.YtogjokofmfpmgaaGreatDoor
open Go.RowKit

def Plain1 (l : List UInt8) : Prop := ∀ c ∈ l, 33 ≤ c.toNat ∧ c.toNat ≤ 126
theorem scanB_ascii : ∀ l : List UInt8, (∀ c ∈ l, 32 ≤ c.toNat ∧ c.toNat ≤ 126) → scanB l = true
  | [], _ => rfl
  | c :: r, h => by
    have hc := h c (by simp)
    have hs : sgn (c :: r) = 1 := by
      unfold sgn signN
      rw [bt_zero, if_pos (by omega)]
    rw [scanB_step _ (by simp), hs, bt_zero, if_neg (by simp [okC]; omega)]
    exact scanB_ascii r (fun x hx => h x (by simp [hx]))
theorem cleanB_ascii (l : List UInt8) (h : ∀ c ∈ l, 32 ≤ c.toNat ∧ c.toNat ≤ 126) : cleanB l = true := by
  rw [← scanB_clean]; exact scanB_ascii l h
theorem sq_plain : ∀ (l out : List UInt8), Plain1 l → l.foldl sq out = out ++ l
  | [], out, _ => by simp
  | c :: r, out, h => by
    have hc := h c (by simp)
    rw [List.foldl_cons, sq_other _ _ (by omega), sq_plain r _ (fun x hx => h x (by simp [hx]))]
    simp
theorem trim_plain (l : List UInt8) (h : Plain1 l) : trimE l = l := by
  rw [trimE, if_neg]
  intro e
  have := h 32 (List.mem_of_getLast? e)
  simp at this
theorem locC_plain {n : Nat} (h : locC n) : 33 ≤ n ∧ n ≤ 126 := by unfold locC at h; omega
theorem labC_plain {n : Nat} (h : labC n) : 33 ≤ n ∧ n ≤ 126 := by unfold labC at h; omega
theorem loc_plain {l : List UInt8} (h : LocP l) : Plain1 l := by
  intro c hc
  obtain ⟨i, hi, e⟩ := mem_bt hc
  have := locC_plain (h.2.2.2.2.2 i hi)
  rwa [e] at this
/-- The signs of a domain. -/
theorem dom_sign {l : List UInt8} (h : ∀ x ∈ splitC 46 l, LabP x) : ∀ c ∈ l, c = 46 ∨ labC c.toNat := by
  intro c hc
  by_cases e : c = 46
  · exact .inl e
  · obtain ⟨p, hp, hx⟩ := splitC_mem 46 l c hc e
    obtain ⟨i, hi, e2⟩ := mem_bt hx
    have := (h p hp).2.2.2.2 i hi
    rw [e2] at this
    exact .inr this
theorem dom_plain {l : List UInt8} (h : DomP l) : Plain1 l := by
  intro c hc
  rcases dom_sign h.2 c hc with rfl | h2
  · decide
  · exact labC_plain h2
theorem lowU_dom {c : UInt8} (h : c = 46 ∨ labC c.toNat) : lowU c = c := by
  refine lowU_no c ?_
  rcases h with rfl | h
  · decide
  · unfold labC at h; omega
theorem foldL_dom {l : List UInt8} (h : DomP l) : foldL l = l := by
  have := dom_sign h.2
  clear h
  unfold foldL
  induction l with
  | nil => rfl
  | cons c r ih =>
    rw [List.map_cons, lowU_dom (this c (by simp)), ih (fun x hx => this x (by simp [hx]))]
theorem addr_form {l : List UInt8} (h : AddrP l) : l = bef 64 l ++ 64 :: aft 64 l := bef_aft 64 l h.2.1
theorem addr_plain {l : List UInt8} (h : AddrP l) : Plain1 l := by
  intro c hc
  rw [addr_form h] at hc
  rcases List.mem_append.1 hc with hc | hc
  · exact loc_plain h.2.2.1 c hc
  · rcases List.mem_cons.1 hc with rfl | hc
    · decide
    · exact dom_plain h.2.2.2 c hc
theorem addr_ne {l : List UInt8} (h : AddrP l) : 0 < l.length := by rw [addr_form h]; simp; omega
theorem can_addr {l : List UInt8} (h : AddrP l) : canT l = l ∧ canE l = 0 := by
  have hp := addr_plain h
  have hc := cleanB_ascii l (fun c hc => by have := hp c hc; omega)
  have hs : sqz l = l := by unfold sqz; rw [sq_plain l [] hp, List.nil_append]; exact trim_plain l hp
  obtain ⟨e1, e2⟩ := cleanB_ok l hc (by rw [hs]; exact h.1) (by rw [hs]; exact addr_ne h)
  rw [hs] at e1
  have hf : lfold l = l := by
    conv => lhs; rw [addr_form h]
    rw [lfold_at _ _ (dom_no_at h.2.2.2), foldL_dom h.2.2.2]
    exact (addr_form h).symm
  have := can_yes e2 (by rw [e1, hf]; exact h)
  rwa [e1, hf] at this
theorem can_ok {l : List UInt8} (h : canE l = 0) : AddrP (canT l) := by
  by_cases c : cleanE l = 0
  · by_cases k : AddrP (lfold (cleanT l))
    · rw [(can_yes c k).1]; exact k
    · have := (can_no c k).2; omega
  · have := (can_e c).2; omega
end Go.Proofs.YtogjokofmfpmgaaGreatDoor
namespace Go.Proofs.YtogjokofmfpmgaaGreatDoor
open Go.RowKit

theorem signN_to (n n' b0 b1 b2 b3 c1 c2 c3 k : Nat) (h : signN n b0 b1 b2 b3 = k) (hk : k ≠ 0) (e1 : 2 ≤ k → b1 = c1 ∧ 1 < n') (e2 : 3 ≤ k → b2 = c2 ∧ 2 < n') (e3 : 4 ≤ k → b3 = c3 ∧ 3 < n') : signN n' b0 c1 c2 c3 = k := by
  unfold signN at h ⊢
  by_cases a1 : b0 < 128
  · rw [if_pos a1] at h ⊢; exact h
  · rw [if_neg a1] at h ⊢
    by_cases a2 : 194 ≤ b0 ∧ b0 ≤ 223
    · rw [if_pos a2] at h ⊢
      by_cases a3 : 1 < n ∧ b1 / 64 = 2
      · rw [if_pos a3] at h
        obtain ⟨rfl, l1⟩ := e1 (by omega)
        rw [if_pos ⟨l1, a3.2⟩]; exact h
      · rw [if_neg a3] at h; exact absurd h.symm hk
    · rw [if_neg a2] at h ⊢
      by_cases a4 : 224 ≤ b0 ∧ b0 ≤ 239
      · rw [if_pos a4] at h ⊢
        split at h
        · next c =>
          obtain ⟨rfl, l1⟩ := e1 (by omega)
          obtain ⟨rfl, l2⟩ := e2 (by omega)
          rw [if_pos ⟨⟨l2, c.1.2⟩, c.2⟩]; exact h
        · exact absurd h.symm hk
      · rw [if_neg a4] at h ⊢
        by_cases a5 : 240 ≤ b0 ∧ b0 ≤ 244
        · rw [if_pos a5] at h ⊢
          split at h
          · next c =>
            obtain ⟨rfl, l1⟩ := e1 (by omega)
            obtain ⟨rfl, l2⟩ := e2 (by omega)
            obtain ⟨rfl, l3⟩ := e3 (by omega)
            rw [if_pos ⟨⟨l3, c.1.2⟩, c.2⟩]; exact h
          · exact absurd h.symm hk
        · rw [if_neg a5] at h; exact absurd h.symm hk
theorem bt_app (a b : List UInt8) (i : Nat) (h : i < a.length) : bt (a ++ b) i = bt a i := by
  simp [bt, List.getD_eq_getElem?_getD, List.getElem?_append_left h]
theorem bt_take (l : List UInt8) (k i : Nat) (h : i < k) : bt (l.take k) i = bt l i := by
  simp [bt, List.getD_eq_getElem?_getD, List.getElem?_take, h]
theorem sgn_to {a c : List UInt8} (ha : a ≠ []) (h : sgn a ≠ 0) (e : ∀ i, i < sgn a → bt c i = bt a i) (hl : sgn a ≤ c.length) : sgn c = sgn a := by
  have hle := sgn_le a ha
  have e0 := e 0 (by omega)
  unfold sgn
  rw [e0]
  refine signN_to a.length c.length (bt a 0) (bt a 1) (bt a 2) (bt a 3) (bt c 1) (bt c 2) (bt c 3) _ rfl h (fun hk => ?_) (fun hk => ?_) (fun hk => ?_)
  · have : 2 ≤ sgn a := hk
    exact ⟨(e 1 (by omega)).symm, by omega⟩
  · have : 3 ≤ sgn a := hk
    exact ⟨(e 2 (by omega)).symm, by omega⟩
  · have : 4 ≤ sgn a := hk
    exact ⟨(e 3 (by omega)).symm, by omega⟩
theorem sgn_app (a b : List UInt8) (ha : a ≠ []) (h : sgn a ≠ 0) : sgn (a ++ b) = sgn a := by
  have hle := sgn_le a ha
  exact sgn_to ha h (fun i hi => bt_app a b i (by omega)) (by rw [List.length_append]; omega)
theorem sgn_take (a : List UInt8) (ha : a ≠ []) (h : sgn a ≠ 0) : sgn (a.take (sgn a)) = sgn a := by
  have hle := sgn_le a ha
  exact sgn_to ha h (fun i hi => bt_take a _ i hi) (by rw [List.length_take]; omega)
theorem scanB_nil : scanB [] = true := rfl
theorem scan_head {a : List UInt8} (ha : a ≠ []) (h : scanB a = true) : sgn a ≠ 0 ∧ okC (bt a 0) = true ∧ scanB (a.drop (sgn a)) = true := by
  rw [scanB_step a ha] at h
  by_cases c : sgn a = 0 ∨ okC (bt a 0) = false
  · rw [if_pos c] at h; cases h
  · rw [if_neg c] at h
    refine ⟨fun e => c (.inl e), ?_, h⟩
    cases hb : okC (bt a 0) with
    | true => rfl
    | false => exact absurd (.inr hb) c
theorem scan_of {a : List UInt8} (ha : a ≠ []) (h1 : sgn a ≠ 0) (h2 : okC (bt a 0) = true) : scanB a = scanB (a.drop (sgn a)) := by
  rw [scanB_step a ha, if_neg (by simp [h1, h2])]
theorem scan_app : ∀ (n : Nat) (a b : List UInt8), a.length ≤ n → scanB a = true → scanB (a ++ b) = scanB b := by
  intro n
  induction n with
  | zero => intro a b h _; have : a = [] := List.eq_nil_of_length_eq_zero (by omega); subst this; rfl
  | succ n ih =>
    intro a b h hs
    by_cases ha : a = []
    · subst ha; rfl
    · obtain ⟨h1, h2, h3⟩ := scan_head ha hs
      have hle := sgn_le a ha
      have hab : a ++ b ≠ [] := by simp [ha]
      have h0 : 0 < a.length := List.length_pos_iff.2 ha
      rw [scan_of hab (by rw [sgn_app a b ha h1]; exact h1) (by rw [bt_app a b 0 h0]; exact h2), sgn_app a b ha h1, List.drop_append_of_le_length hle]
      exact ih _ b (by rw [List.length_drop]; omega) h3
theorem scan_chunk {a : List UInt8} (ha : a ≠ []) (h1 : sgn a ≠ 0) (h2 : okC (bt a 0) = true) : scanB (a.take (sgn a)) = true := by
  have hle := sgn_le a ha
  have h0 : 0 < a.length := List.length_pos_iff.2 ha
  have hn : a.take (sgn a) ≠ [] := by
    intro e
    have := congrArg List.length e
    rw [List.length_take, List.length_nil] at this
    omega
  rw [scan_of hn (by rw [sgn_take a ha h1]; exact h1) (by rw [bt_take a _ 0 (by omega)]; exact h2), sgn_take a ha h1, List.drop_take, Nat.sub_self, List.take_zero]
  rfl
theorem sgn_small (b0 : UInt8) (t : List UInt8) (h : b0.toNat < 128) : sgn (b0 :: t) = 1 := by
  unfold sgn signN; rw [bt_zero, if_pos h]
theorem chunk_hi {a : List UInt8} (ha : a ≠ []) (h : 2 ≤ sgn a) : ∀ c ∈ a.take (sgn a), 128 ≤ c.toNat := by
  cases a with
  | nil => exact absurd rfl ha
  | cons b0 t =>
    have h0 : 128 ≤ b0.toNat := by
      rcases Nat.lt_or_ge b0.toNat 128 with hh | hh
      · have := sgn_small b0 t hh; omega
      · exact hh
    rcases sgn_cases b0 t with e | e | ⟨e, b1, r, rfl, q1⟩ | ⟨e, b1, b2, r, rfl, q1, q2⟩ | ⟨e, b1, b2, b3, r, rfl, q1, q2, q3⟩
    · omega
    · omega
    · rw [e]; intro c hc; simp at hc; rcases hc with rfl | rfl <;> omega
    · rw [e]; intro c hc; simp at hc; rcases hc with rfl | rfl | rfl <;> omega
    · rw [e]; intro c hc; simp at hc; rcases hc with rfl | rfl | rfl | rfl <;> omega
theorem fold_hi : ∀ (l out : List UInt8), (∀ c ∈ l, 128 ≤ c.toNat) → l.foldl sq out = out ++ l
  | [], out, _ => by simp
  | c :: r, out, h => by
    have hc := h c (by simp)
    rw [List.foldl_cons, sq_other _ _ (by omega), fold_hi r _ (fun x hx => h x (by simp [hx]))]
    simp
def Whole (o : List UInt8) : Prop := scanB o = true ∧ (o.getLast? = some 32 → scanB o.dropLast = true)
theorem fold_scan : ∀ (n : Nat) (l out : List UInt8), l.length ≤ n → scanB l = true → Whole out → Whole (l.foldl sq out) := by
  intro n
  induction n with
  | zero => intro l out h _ ho; have : l = [] := List.eq_nil_of_length_eq_zero (by omega); subst this; exact ho
  | succ n ih =>
    intro l out h hs ho
    by_cases hl : l = []
    · subst hl; exact ho
    · obtain ⟨h1, h2, h3⟩ := scan_head hl hs
      have hle := sgn_le l hl
      have hch := scan_chunk hl h1 h2
      have e := List.take_append_drop (sgn l) l
      have key : Whole ((l.take (sgn l)).foldl sq out) := by
        by_cases k1 : sgn l = 1
        · obtain ⟨b, t, rfl⟩ := List.exists_cons_of_ne_nil hl
          rw [k1] at hch ⊢
          show Whole (sq out b)
          unfold sq
          split
          · exact ho
          · refine ⟨?_, fun _ => ?_⟩
            · rw [scan_app _ out [b] (Nat.le_refl _) ho.1]; exact hch
            · rw [List.dropLast_concat]; exact ho.1
        · have hhi := chunk_hi hl (by omega)
          rw [fold_hi _ _ hhi]
          refine ⟨by rw [scan_app _ out _ (Nat.le_refl _) ho.1]; exact hch, fun hlast => ?_⟩
          exfalso
          have hne : l.take (sgn l) ≠ [] := by
            intro e
            have := congrArg List.length e
            rw [List.length_take, List.length_nil] at this
            omega
          rw [List.getLast?_append, List.getLast?_eq_some_getLast hne, Option.some_or] at hlast
          injection hlast with hlast
          have := hhi _ (List.getLast_mem hne)
          rw [hlast] at this
          simp at this
      have := ih (l.drop (sgn l)) _ (by rw [List.length_drop]; omega) h3 key
      rw [← List.foldl_append, e] at this
      exact this
theorem sqz_scan {l : List UInt8} (h : scanB l = true) : scanB (sqz l) = true := by
  have := fold_scan l.length l [] (Nat.le_refl _) h ⟨scanB_nil, fun e => by simp at e⟩
  unfold sqz trimE
  split
  · next e => exact this.2 e
  · exact this.1
theorem fold_again : ∀ (l out : List UInt8), out.foldl sq [] = out → (l.foldl sq out).foldl sq [] = l.foldl sq out
  | [], _, h => h
  | c :: r, out, h => by
    rw [List.foldl_cons]
    refine fold_again r _ ?_
    by_cases k : c = 32 ∧ (out = [] ∨ out.getLast? = some 32)
    · rw [show sq out c = out by rw [sq, if_pos k]]; exact h
    · have e : sq out c = out ++ [c] := by rw [sq, if_neg k]
      rw [e, List.foldl_append, h]
      exact e
theorem sqz_again (l : List UInt8) : sqz (sqz l) = sqz l := by
  have h := fold_again l [] rfl
  unfold sqz
  generalize l.foldl sq [] = O at *
  by_cases k : O.getLast? = some 32
  · have e1 : trimE O = O.dropLast := by rw [trimE, if_pos k]
    rw [e1]
    have e2 : O = O.dropLast ++ [32] := by
      have hn : O ≠ [] := fun e => by rw [e] at k; simp at k
      have := List.dropLast_concat_getLast hn
      rw [List.getLast?_eq_some_getLast hn] at k
      injection k with k
      rw [k] at this
      exact this.symm
    generalize O.dropLast = D at *
    subst e2
    rw [List.foldl_append] at h
    have hlen := fold_sq_len D []
    generalize D.foldl sq [] = X at *
    have h' : sq X 32 = D ++ [32] := h
    unfold sq at h'
    split at h'
    · next c =>
      have := congrArg List.length h'
      rw [List.length_append] at this
      simp at this hlen
      omega
    · next c =>
      have e3 := List.append_cancel_right h'
      subst e3
      rw [trimE, if_neg (fun e => c ⟨rfl, .inr e⟩)]
  · have e1 : trimE O = O := by rw [trimE, if_neg k]
    rw [e1, h, e1]
theorem sq_sub : ∀ (l out : List UInt8), ∀ c ∈ l.foldl sq out, c ∈ out ∨ c ∈ l
  | [], out, c, h => .inl h
  | x :: r, out, c, h => by
    rw [List.foldl_cons] at h
    rcases sq_sub r _ c h with h | h
    · unfold sq at h
      split at h
      · exact .inl h
      · rcases List.mem_append.1 h with h | h
        · exact .inl h
        · exact .inr (by simp at h; simp [h])
    · exact .inr (by simp [h])
theorem cleanE_0 {l : List UInt8} (h : cleanE l = 0) : cleanB l = true ∧ sqz l ≠ [] ∧ (sqz l).length ≤ 64 ∧ cleanT l = sqz l := by
  unfold cleanE at h
  split at h
  · next hb =>
    split at h
    · omega
    · next hn =>
      split at h
      · omega
      · next hl =>
        have hp : 0 < (sqz l).length := List.length_pos_iff.2 hn
        exact ⟨hb, hn, by omega, (cleanB_ok l hb (by omega) hp).1⟩
  · omega
/-- Cleaned twice. -/
theorem clean_twice {l : List UInt8} (h : cleanE l = 0) : cleanT (cleanT l) = cleanT l ∧ cleanE (cleanT l) = 0 := by
  obtain ⟨h1, h2, h3, h4⟩ := cleanE_0 h
  rw [h4]
  have hb : cleanB (sqz l) = true := by
    rw [← scanB_clean] at h1 ⊢
    exact sqz_scan h1
  have hp : 0 < (sqz l).length := List.length_pos_iff.2 h2
  have := cleanB_ok (sqz l) hb (by rw [sqz_again]; exact h3) (by rw [sqz_again]; exact hp)
  rw [sqz_again] at this
  exact this
theorem clean_plain {l : List UInt8} (hp : Plain1 l) (h0 : 0 < l.length) (h64 : l.length ≤ 64) : cleanT l = l ∧ cleanE l = 0 := by
  have hc := cleanB_ascii l (fun c hc => by have := hp c hc; omega)
  have hs : sqz l = l := by unfold sqz; rw [sq_plain l [] hp, List.nil_append]; exact trim_plain l hp
  have := cleanB_ok l hc (by rw [hs]; exact h64) (by rw [hs]; exact h0)
  rw [hs] at this
  exact this
theorem clean_ok0 {l : List UInt8} (h : cleanE l = 0) : ∀ c ∈ cleanT l, 32 ≤ c.toNat := by
  obtain ⟨h1, h2, h3, h4⟩ := cleanE_0 h
  have ha : l.all okB = true := by
    unfold cleanB at h1
    simp only [Bool.and_eq_true] at h1
    exact h1.2
  intro c hc
  rw [h4] at hc
  have hm : c ∈ l.foldl sq [] := by
    unfold sqz trimE at hc
    split at hc
    · exact List.dropLast_subset _ hc
    · exact hc
  rcases sq_sub l [] c hm with h | h
  · cases h
  · have := List.all_eq_true.1 ha c h
    simp [okB, okC] at this
    exact this.1

end Go.Proofs.YtogjokofmfpmgaaGreatDoor
namespace Go.Proofs.YtogjokofmfpmgaaGreatDoor
open Go.RowKit

def telC (c : UInt8) : Bool := decide (c.toNat ≠ 32 ∧ c.toNat ≠ 45 ∧ c.toNat ≠ 46 ∧ c.toNat ≠ 47 ∧ c.toNat ≠ 40 ∧ c.toNat ≠ 41)
def telD (l : List UInt8) : List UInt8 := l.filter telC
def telR (l : List UInt8) : List UInt8 := if 0 < l.length ∧ bt l 0 = 43 then l.drop 1 else l
def TelP (l : List UInt8) : Prop := 3 ≤ (telR l).length ∧ (telR l).length ≤ 15 ∧ ∀ i, i < (telR l).length → 48 ≤ bt (telR l) i ∧ bt (telR l) i ≤ 57
open Classical in
noncomputable def telB (l : List UInt8) : Bool := decide (TelP l)
theorem telB_t {l : List UInt8} (h : TelP l) : telB l = true := by simp [telB, h]
theorem telB_f {l : List UInt8} (h : ¬ TelP l) : telB l = false := by simp [telB, h]
open Classical in
noncomputable def telT (l : List UInt8) : List UInt8 := if cleanE l = 0 ∧ TelP (telD (cleanT l)) then telD (cleanT l) else []
open Classical in
noncomputable def telE (l : List UInt8) : Int := if cleanE l = 0 then (if TelP (telD (cleanT l)) then 0 else 1) else cleanE l
theorem tel_e {l : List UInt8} (h : cleanE l ≠ 0) : telT l = [] ∧ telE l = cleanE l := by simp [telT, telE, h]
theorem tel_yes {l : List UInt8} (h : cleanE l = 0) (k : TelP (telD (cleanT l))) : telT l = telD (cleanT l) ∧ telE l = 0 := by simp [telT, telE, h, k]
theorem tel_no {l : List UInt8} (h : cleanE l = 0) (k : ¬ TelP (telD (cleanT l))) : telT l = [] ∧ telE l = 1 := by simp [telT, telE, h, k]
theorem telD_next (l : List UInt8) (k : Nat) (h : k < l.length) : telD (l.take (k + 1)) = telD (l.take k) ++ (if telC l[k] = true then [l[k]] else []) := by
  unfold telD
  rw [List.take_succ_eq_append_getElem h, List.filter_append]
  congr 1
  by_cases hc : telC l[k] = true <;> simp [hc]
theorem telD_skip (l : List UInt8) (k : Nat) (h : k < l.length) (c : telC l[k] = false) : telD (l.take (k + 1)) = telD (l.take k) := by
  rw [telD_next l k h, c]; simp
theorem telD_put (l : List UInt8) (k : Nat) (h : k < l.length) (c : telC l[k] = true) : telD (l.take (k + 1)) = telD (l.take k) ++ [l[k]] := by
  rw [telD_next l k h, c]; simp
theorem mem_bt_of {l : List UInt8} {P : Nat → Prop} (h : ∀ i, i < l.length → P (bt l i)) : ∀ c ∈ l, P c.toNat := by
  intro c hc
  obtain ⟨i, hi, e⟩ := mem_bt hc
  rw [← e]; exact h i hi
theorem tel_sign {l : List UInt8} (h : TelP l) : ∀ c ∈ l, c.toNat = 43 ∨ (48 ≤ c.toNat ∧ c.toNat ≤ 57) := by
  have hr := mem_bt_of (P := fun n => 48 ≤ n ∧ n ≤ 57) h.2.2
  intro c hc
  unfold telR at hr
  split at hr
  · next k =>
    cases l with
    | nil => cases hc
    | cons b t =>
      rcases List.mem_cons.1 hc with rfl | hc
      · exact .inl k.2
      · exact .inr (hr c hc)
  · exact .inr (hr c hc)
theorem tel_len {l : List UInt8} (h : TelP l) : 3 ≤ l.length ∧ l.length ≤ 16 := by
  have h1 := h.1
  have h2 := h.2.1
  unfold telR at h1 h2
  split at h1
  · next k => rw [if_pos k] at h2; rw [List.length_drop] at h1 h2; omega
  · next k => rw [if_neg k] at h2; omega
theorem telD_self {l : List UInt8} (h : TelP l) : telD l = l := by
  unfold telD
  rw [List.filter_eq_self]
  intro c hc
  have := tel_sign h c hc
  simp only [telC, decide_eq_true_eq]
  omega
/-- A number is its own form. -/
theorem tel_self {l : List UInt8} (h : TelP l) : telT l = l ∧ telE l = 0 := by
  have hl := tel_len h
  have hc := clean_plain (l := l) (fun c hc => by have := tel_sign h c hc; omega) (by omega) (by omega)
  have := tel_yes hc.2 (by rw [hc.1, telD_self h]; exact h)
  rwa [hc.1, telD_self h] at this
theorem tel_ok {l : List UInt8} (h : telE l = 0) : TelP (telT l) := by
  by_cases c : cleanE l = 0
  · by_cases k : TelP (telD (cleanT l))
    · rw [(tel_yes c k).1]; exact k
    · have := (tel_no c k).2; omega
  · have := (tel_e c).2; omega
end Go.Proofs.YtogjokofmfpmgaaGreatDoor
