/-
  Telephone numbers: what is one, on both sides.
-/
import Derived.Test.YtfacfdjapjhpeaaGreatDoorGAC
import Derived.Test.YtfacfdjapjhpeaaGreatDoorGAO
import Derived.Test.YtfacfdjapjhpeaaGreatDoorGAD
import Derived.Test.YtfacfdjapjhpeaaGreatDoorProg
import Derived.Test.YtfacfdjapjhpeaaGreatDoorGAB
import Derived.Lib.QuietBelow
import Derived.IntWalk
import Derived.Laws.BytesArg
set_option linter.unusedVariables false
set_option linter.unusedSimpArgs false
namespace Go.Proofs.YtfacfdjapjhpeaaGreatDoor
open Go.RowKit

theorem trim_calls (s : ByteArray) (w : World) : Calls Tryz.prog 273 #[.string s, .string ⟨#[43]⟩] w fun e w' => e = .returned (.string (bs (telR s.data.toList))) ∧ w = w' := by
  refine (Any.strings_TrimPrefix lays101 s ⟨#[43]⟩ w).mono ?_
  rintro e w' ⟨rfl, rfl⟩
  refine ⟨?_, rfl⟩
  congr 2
  show bs _ = bs _
  congr 1
  unfold Lib.trimPrefix telR
  generalize s.data.toList = l
  show (if Lib.hasPrefix l [43] then l.drop 1 else l) = _
  cases l with
  | nil => simp [Lib.hasPrefix]
  | cons b t =>
    by_cases hb : b = 43
    · subst hb
      rw [if_pos (by simp [Lib.hasPrefix]), if_pos ⟨by simp, by rw [bt_zero]; rfl⟩]
    · rw [if_neg (by simpa [Lib.hasPrefix] using fun e : 43 = b => hb e.symm), if_neg (fun h => hb (UInt8.toNat_inj.1 (by have := h.2; rw [bt_zero] at this; exact this)))]

def rowV (l : List UInt8) : List UInt8 × Bool → Prop := fun p => (TelP l ∧ p = (telR l, true)) ∨ (¬ TelP l ∧ p = ([], false))
structure RowE (l : List UInt8) (e : Ending) : Prop where
  o : ∃ p, rowV l p ∧ e = .returned (.tuple #[.string (bs p.1), .bool p.2])

set_option maxHeartbeats 1000000 in
theorem row_calls (s : ByteArray) (hs : s.size ≤ 1000000000) (w : World) : Calls Tryz.prog 261 #[.string s] w fun e w' => RowE s.data.toList e ∧ w = w' := by
  have C1 := hd (trim_calls s)
  obtain ⟨R, hR⟩ : ∃ R, telR s.data.toList = R := ⟨_, rfl⟩
  rw [hR] at C1
  have hz : (bs R).size = R.length := bs_size R
  have hle : R.length ≤ s.size := by
    have : s.data.toList.length = s.size := by simp
    rw [← hR, ← this]
    unfold telR
    split
    · rw [List.length_drop]; omega
    · exact Nat.le_refl _
  have HTel := hd (show TelP s.data.toList ↔ 3 ≤ R.length ∧ R.length ≤ 15 ∧ ∀ i, i < R.length → 48 ≤ bt R i ∧ bt R i ≤ 57 by unfold TelP; rw [hR])
  have HYES := hd (fun h : TelP s.data.toList => (⟨⟨_, .inl ⟨h, rfl⟩, by rw [hR]⟩⟩ : RowE s.data.toList (Ending.returned (.tuple #[.string (bs R), .bool true]))))
  have HNO := hd (fun h : ¬ TelP s.data.toList => (⟨⟨_, .inr ⟨h, rfl⟩, rfl⟩⟩ : RowE s.data.toList (Ending.returned (.tuple #[.string (bs []), .bool false]))))
  clear hR
  have HZ := hd hz
  clear hz
  by_cases c1 : (bs R).size < 3
  · have HX := hd (HNO.o (fun h => by have := (HTel.o.1 h).1; rw [HZ.o] at c1; omega))
    go_enter Tryz.func261, Tryz.ntmps261
    go_wp2_with fail
    refine (C1.o w).mono ?_
    rintro e w1 ⟨rfl, rfl⟩
    go_wp2_with fail
    go_ret2
    exact ⟨HX.o, rfl⟩
  by_cases c2 : 15 < (bs R).size
  · have HX := hd (HNO.o (fun h => by have := (HTel.o.1 h).2.1; rw [HZ.o] at c2; omega))
    go_enter Tryz.func261, Tryz.ntmps261
    go_wp2_with fail
    refine (C1.o w).mono ?_
    rintro e w1 ⟨rfl, rfl⟩
    go_wp2_with fail
    go_ret2
    exact ⟨HX.o, rfl⟩
  go_enter Tryz.func261, Tryz.ntmps261
  go_wp2_with fail
  refine (C1.o w).mono ?_
  rintro e w1 ⟨rfl, rfl⟩
  go_wp2_with fail
  go_loop [18, 5, 2, 3] (fun i _ _ _ => ∃ k : Nat, i = .int .i64 k ∧ k ≤ (bs R).size ∧ Hd (∀ j, j < k → 48 ≤ bt R j ∧ bt R j ≤ 57)) (fun i _ _ _ => (bs R).size - (RowKit.intOf i).toNat)
  case atStart => exact ⟨0, rfl, Nat.zero_le _, fun j hj => absurd hj (Nat.not_lt_zero _)⟩
  case round =>
    obtain ⟨k, rfl, hk, hh⟩ := hrel
    have hki : (0 : Int) ≤ (k : Int) := by omega
    by_cases hlt : k < (bs R).size
    · have BK := hd (bt_self (bs R) k hlt)
      rw [bs_data] at BK
      by_cases hc : 48 ≤ (bs R)[k].toNat ∧ (bs R)[k].toNat ≤ 57
      · have HN : Hd (∀ j, j < k + 1 → 48 ≤ bt R j ∧ bt R j ≤ 57) := fun j hj => by
          by_cases e : j = k
          · subst e; rw [BK.o]; exact hc
          · exact hh.o j (by omega)
        obtain ⟨h1, h2⟩ := hc
        go_wp2
        go_round
        case rel => exact ⟨k + 1, by go_num, by omega, HN⟩
        case measure => simp [RowKit.intOf]; omega
      · have HX := hd (HNO.o (fun h => hc (by rw [← BK.o]; exact (HTel.o.1 h).2.2 k (by rw [← HZ.o]; exact hlt))))
        by_cases h1 : (bs R)[k].toNat < 48
        · clear hc
          go_wp2
          go_ret2
          exact ⟨HX.o, rfl⟩
        · have h2 : 57 < (bs R)[k].toNat := by omega
          clear hc
          go_wp2
          go_ret2
          exact ⟨HX.o, rfl⟩
    · have HX := hd (HYES.o (HTel.o.2 ⟨by rw [← HZ.o]; omega, by rw [← HZ.o]; omega, fun j hj => hh.o j (by rw [← HZ.o] at hj; omega)⟩))
      go_wp2
      go_ret2
      exact ⟨HX.o, rfl⟩

theorem istel_calls (s : ByteArray) (hs : s.size ≤ 1000000000) (w : World) : Calls Tryz.prog 241 #[.string s] w fun e w' => e = .returned (.bool (telB s.data.toList)) ∧ w = w' := by
  have C1 := hd (row_calls s hs)
  go_enter Tryz.func241, Tryz.ntmps241
  go_wp2_with fail
  refine (C1.o w).mono ?_
  rintro e w1 ⟨⟨p, hp, rfl⟩, rfl⟩
  have HP := hd (show p.2 = telB s.data.toList by
    rcases hp with ⟨h, rfl⟩ | ⟨h, rfl⟩
    · exact (telB_t h).symm
    · exact (telB_f h).symm)
  clear hp
  go_wp2_with fail
  go_ret
  exact ⟨retB HP.o, rfl⟩

end Go.Proofs.YtfacfdjapjhpeaaGreatDoor
namespace Go.Proofs.YtfacfdjapjhpeaaGreatDoor
open Go.RowKit

theorem telC_f {c : UInt8} (h : c.toNat = 32 ∨ c.toNat = 45 ∨ c.toNat = 46 ∨ c.toNat = 47 ∨ c.toNat = 40 ∨ c.toNat = 41) : telC c = false := by
  simp only [telC, decide_eq_false_iff_not]; omega
theorem telC_t {c : UInt8} (h : ¬ (c.toNat = 32 ∨ c.toNat = 45 ∨ c.toNat = 46 ∨ c.toNat = 47 ∨ c.toNat = 40 ∨ c.toNat = 41)) : telC c = true := by
  simp only [telC, decide_eq_true_eq]; omega

set_option maxRecDepth 100000 in
set_option maxHeartbeats 4000000 in
theorem telcan_calls (s : ByteArray) (hs : s.size ≤ 1000000) (w : World) (ht : Tbl w) : Calls Tryz.prog 225 #[.string s] w fun e w' => e = .returned (.tuple #[.string (bs (telT s.data.toList)), .int .i64 (telE s.data.toList)]) ∧ Below w.heap.size w w' := by
  have C1 := hd (clean_calls s hs w ht)
  clear ht
  obtain ⟨i0, hi, hz0, hz1, hz2⟩ := info_parts u8Info
  obtain ⟨V, hV⟩ : ∃ V, telT s.data.toList = V := ⟨_, rfl⟩
  obtain ⟨F, hF⟩ : ∃ F, telE s.data.toList = F := ⟨_, rfl⟩
  rw [hV, hF]
  have HR := hd (⟨hV.symm, hF.symm⟩ : V = telT s.data.toList ∧ F = telE s.data.toList)
  clear hV hF
  have hl := cleanT_len s.data.toList
  have R1 := hd (fun h : cleanE s.data.toList ≠ 0 => tel_e h)
  have R2 := hd (fun (h : cleanE s.data.toList = 0) k => tel_yes h k)
  have R3 := hd (fun (h : cleanE s.data.toList = 0) k => tel_no h k)
  obtain ⟨T, hT⟩ : ∃ T, cleanT s.data.toList = T := ⟨_, rfl⟩
  obtain ⟨E, hE⟩ : ∃ E, cleanE s.data.toList = E := ⟨_, rfl⟩
  rw [hT, hE] at C1 R2 R3
  rw [hE] at R1
  rw [hT] at hl
  clear hT hE
  by_cases hE0 : E = 0
  · subst hE0
    have hz : (bs T).size = T.length := bs_size T
    have HZ := hd hz
    have hs64 : (bs T).size ≤ 64 := by omega
    clear hz
    go_enter Tryz.func225, Tryz.ntmps225
    go_wp2_with fail
    refine C1.o.mono ?_
    rintro e w1 ⟨rfl, hb1⟩
    have HB1 := hd hb1
    clear hb1
    go_wp2_with fail
    go_loopw [6, 18, 7] (fun out i _ wr => ∃ (k : Nat) (A : Option Addr) (c m : Nat) (O : List UInt8), i = .int .i64 k ∧ k ≤ (bs T).size ∧ out = .slice A m c ∧ m ≤ k ∧ Hd (telD (T.take k) = O) ∧ Hd (O.length = m) ∧ Hd (m = 0 → A = none ∧ c = 0) ∧ Row wr (From w.heap.size) 5 1 A m c (enc8 O) ∧ Below w.heap.size w wr) (fun _ i _ _ => (bs T).size - (RowKit.intOf i).toNat)
    case atStart => exact ⟨0, none, 0, 0, [], rfl, Nat.zero_le _, rfl, Nat.le_refl _, rfl, rfl, fun _ => ⟨rfl, rfl⟩, Row.nil _ _ _ _, HB1.o⟩
    case round =>
      obtain ⟨k, A, c, m, O, rfl, hk, rfl, hm, HO, HM, H0, hr, hbe⟩ := hrel
      have hsz := hbe.size
      have hki : (0 : Int) ≤ (k : Int) := by omega
      by_cases hlt : k < (bs T).size
      · have hlT : k < T.length := by rw [← HZ.o]; exact hlt
        have ec : (bs T)[k] = T[k] := by show T.toArray[k]'(by simpa using hlT) = T[k]; exact List.getElem_toArray _
        have HC := hd ec
        by_cases hc : (bs T)[k].toNat = 32 ∨ (bs T)[k].toNat = 45 ∨ (bs T)[k].toNat = 46 ∨ (bs T)[k].toNat = 47 ∨ (bs T)[k].toNat = 40 ∨ (bs T)[k].toNat = 41
        · have HN := hd (show telD (T.take (k + 1)) = O by rw [telD_skip T k hlT (by rw [← ec]; exact telC_f hc)]; exact HO.o)
          clear ec
          rcases hc with hc | hc | hc | hc | hc | hc
          all_goals
            (first | (have n1 : (((bs T)[k].toNat : Int) == 32) = true := by simp; omega) | (have n1 : (((bs T)[k].toNat : Int) == 32) = false := by simp; omega)
             first | (have n2 : (((bs T)[k].toNat : Int) == 45) = true := by simp; omega) | (have n2 : (((bs T)[k].toNat : Int) == 45) = false := by simp; omega)
             first | (have n3 : (((bs T)[k].toNat : Int) == 46) = true := by simp; omega) | (have n3 : (((bs T)[k].toNat : Int) == 46) = false := by simp; omega)
             first | (have n4 : (((bs T)[k].toNat : Int) == 47) = true := by simp; omega) | (have n4 : (((bs T)[k].toNat : Int) == 47) = false := by simp; omega)
             first | (have n5 : (((bs T)[k].toNat : Int) == 40) = true := by simp; omega) | (have n5 : (((bs T)[k].toNat : Int) == 40) = false := by simp; omega)
             first | (have n6 : (((bs T)[k].toNat : Int) == 41) = true := by simp; omega) | (have n6 : (((bs T)[k].toNat : Int) == 41) = false := by simp; omega)
             clear hc
             go_wp2_with fail
             go_roundw
             case rel => exact ⟨k + 1, A, c, m, O, by go_num, by omega, rfl, by omega, HN, HM, H0, hr, hbe⟩
             case measure => simp [RowKit.intOf]; omega)
        · have HN := hd (show telD (T.take (k + 1)) = O ++ [(bs T)[k]] by rw [telD_put T k hlT (by rw [← ec]; exact telC_t hc), HO.o, ec])
          clear ec
          have n1 : (((bs T)[k].toNat : Int) == 32) = false := by simp; omega
          have n2 : (((bs T)[k].toNat : Int) == 45) = false := by simp; omega
          have n3 : (((bs T)[k].toNat : Int) == 46) = false := by simp; omega
          have n4 : (((bs T)[k].toNat : Int) == 47) = false := by simp; omega
          have n5 : (((bs T)[k].toNat : Int) == 40) = false := by simp; omega
          have n6 : (((bs T)[k].toNat : Int) == 41) = false := by simp; omega
          clear hc
          go_wp2_with (at_builtin; go_loud (refine wpList_append_row rfl _ _ 275 rfl (Of A) 5 i0 (.int .u8 0) 1 1 Tryz.underlying275 hi hz0 hz1 hz2 rfl A m c (enc8 O) rfl (hr.own_.alloc _) ⟨_, 0, none⟩ 1 1 [.int .u8 ((bs T)[k].toNat : Int)] rfl rfl (cells_at (Blk.new_ _ _ (by simp) _ _) rfl) (by simp [Value.oneCell']) (by omega) (by unfold maxLen; omega) (by omega) ?_; intro A2 c2 w2 hown2 hchg2))
          go_roundw
          case rel =>
            refine ⟨k + 1, A2, c2, m + 1, O ++ [(bs T)[k]], by go_num, by omega, rfl, by omega, HN, hd (by rw [List.length_append, HM.o]; rfl), hd (fun h => by omega), ?_, ?_⟩
            · rw [enc8_snoc]
              refine hown2.mono fun q hq => ?_
              rcases hq with hq | hq
              · exact hr.of_sub q hq
              · simp at hq; show w.heap.size ≤ q; omega
            · exact hbe.trans ((((Chg.refl (From w.heap.size) wr).alloc _).trans hchg2 (fun q hq => .inl (hr.of_sub q hq))).below (fun _ h => h) hsz)
          case measure => simp [RowKit.intOf]; omega
      · have hke : k = (bs T).size := by omega
        subst hke
        clear hk
        have hfold : T.take (bs T).size = T := List.take_of_length_le (by rw [HZ.o]; exact Nat.le_refl _)
        rw [hfold] at HO
        clear hfold
        have hv : ∃ s', s' = bs O ∧ (convert 275 9 (.slice A m c)).run Tryz.prog wr = .ok (.string s') wr := by
          refine ⟨_, rfl, ?_⟩
          by_cases hm0 : m = 0
          · obtain ⟨rfl, rfl⟩ := H0.o hm0
            subst hm0
            have : O = [] := List.eq_nil_of_length_eq_zero HM.o
            subst this
            exact run_convert_bytes_nil wr 275 5 Tryz.underlying275 Tryz.underlying5 0 0 9 Tryz.underlying9
          · obtain ⟨g, rfl, _, hg, hmc, hcm, hcell, _⟩ := hr.at_ (by omega)
            have hv := run_convert_bytes_back (P := Tryz.prog) wr 275 9 5 ⟨g, 0, none⟩ c O Tryz.underlying275 Tryz.underlying5 Tryz.underlying9 (fun j hj => by
              have := hcell j _ (enc8_get O j hj)
              rw [bt_list O j hj] at this
              have hp : (⟨g, 0, none⟩ : Addr).add j = ⟨g, j, none⟩ := by unfold Addr.add; split <;> simp_all
              rw [hp]; exact this)
            rw [HM.o] at hv
            exact hv
        obtain ⟨s', hs', hv⟩ := hv
        have hIS := istel_calls (bs O) (by rw [bs_size, HM.o]; omega)
        rw [bs_data] at hIS
        rw [← hs'] at hIS
        have HS := hd hs'
        clear hs'
        by_cases hA : TelP O
        · rw [telB_t hA] at hIS
          have HX := hd (R2.o trivial (by rw [HO.o]; exact hA))
          have HIS := hd hIS
          clear hIS hA
          go_wp2_with fail
          refine (HIS.o _).mono ?_
          rintro e w3 ⟨rfl, rfl⟩
          go_wp2_with fail
          go_ret2
          exact ⟨retTE (by rw [HS.o, HR.o.1, HX.o.1, HO.o]) (by rw [HR.o.2, HX.o.2]), hbe⟩
        · rw [telB_f hA] at hIS
          have HX := hd (R3.o trivial (by rw [HO.o]; exact hA))
          have HIS := hd hIS
          clear hIS hA
          go_wp2_with fail
          refine (HIS.o _).mono ?_
          rintro e w3 ⟨rfl, rfl⟩
          go_wp2_with fail
          go_ret2
          exact ⟨retTE (by rw [HR.o.1, HX.o.1]; rfl) (by rw [HR.o.2, HX.o.2]), hbe⟩
  · have n0 : (E != 0) = true := by simpa using hE0
    have H0 := hd (R1.o hE0)
    clear hE0
    go_enter Tryz.func225, Tryz.ntmps225
    go_wp2_with fail
    refine C1.o.mono ?_
    rintro e w1 ⟨rfl, hb1⟩
    go_wp2_with fail
    go_ret2
    exact ⟨retTE (by rw [HR.o.1, H0.o.1]; rfl) (by rw [HR.o.2, H0.o.2]), hb1⟩

end Go.Proofs.YtfacfdjapjhpeaaGreatDoor
namespace Go.Proofs.YtfacfdjapjhpeaaGreatDoor
open Go.RowKit

theorem retSB {a b : ByteArray} {x y : Bool} (h : a = b) (k : x = y) : Ending.returned (.tuple #[.string a, .bool x]) = .returned (.tuple #[.string b, .bool y]) := by rw [h, k]
theorem retS {a b : ByteArray} (h : a = b) : Ending.returned (.string a) = .returned (.string b) := by rw [h]
def okL (k l : Int) : Prop := l = 0 ∨ ((l = 1 ∨ l = 2) ∧ (k = 3 ∨ k = 4)) ∨ (l = 3 ∧ k = 3)
instance (k l : Int) : Decidable (okL k l) := by unfold okL; infer_instance
theorem okKL_iff (k l : Int) : okKL k l ↔ (1 ≤ k ∧ k ≤ 6) ∧ okL k l := by unfold okKL okL; constructor <;> (intro h; omega)
def labV (k l : Int) : List UInt8 := if okL k l then labL l else []
theorem kindL_ne (k : Int) : kindL k = [] ↔ ¬ (1 ≤ k ∧ k ≤ 6) := by
  unfold kindL
  repeat' split
  all_goals (simp; try omega)

theorem kind_calls (k : Int) (w : World) : Calls Tryz.prog 180 #[.int .i64 k] w fun e w' => e = .returned (.string (bs (kindL k))) ∧ w = w' := by
  by_cases hh : k = 1 ∨ k = 2 ∨ k = 3 ∨ k = 4 ∨ k = 5 ∨ k = 6
  · rcases hh with rfl | rfl | rfl | rfl | rfl | rfl
    all_goals
      (go_enter Tryz.func180, Tryz.ntmps180
       go_wp2
       go_ret
       exact ⟨rfl, rfl⟩)
  · have n1 : (k == 1) = false := by simp; omega
    have n2 : (k == 2) = false := by simp; omega
    have n3 : (k == 3) = false := by simp; omega
    have n4 : (k == 4) = false := by simp; omega
    have n5 : (k == 5) = false := by simp; omega
    have n6 : (k == 6) = false := by simp; omega
    have HX := hd ((kindL_ne k).2 (by omega))
    clear hh
    go_enter Tryz.func180, Tryz.ntmps180
    go_wp2
    go_ret
    exact ⟨by rw [HX.o]; rfl, rfl⟩

set_option maxHeartbeats 1000000 in
theorem label_calls (k l : Int) (w : World) : Calls Tryz.prog 179 #[.int .i64 k, .int .i64 l] w fun e w' => e = .returned (.tuple #[.string (bs (labV k l)), .bool (decide (okL k l))]) ∧ w = w' := by
  by_cases hl : l = 0 ∨ l = 1 ∨ l = 2 ∨ l = 3
  · by_cases hk : k = 3 ∨ k = 4
    · rcases hl with rfl | rfl | rfl | rfl <;> rcases hk with rfl | rfl
      all_goals
        (go_enter Tryz.func179, Tryz.ntmps179
         go_wp2
         go_ret2
         exact ⟨retSB (by decide) (by decide), rfl⟩)
    · have n3 : (k == 3) = false := by simp; omega
      have n4 : (k == 4) = false := by simp; omega
      rcases hl with rfl | rfl | rfl | rfl
      · have e1 : okL k 0 := .inl rfl
        have HX := hd (show labV k 0 = [] ∧ decide (okL k 0) = true from ⟨by rw [labV, if_pos e1]; rfl, by simp [e1]⟩)
        clear hk e1
        go_enter Tryz.func179, Tryz.ntmps179
        go_wp2
        go_ret2
        exact ⟨retSB (by rw [HX.o.1]; rfl) HX.o.2.symm, rfl⟩
      · have e1 : ¬ okL k 1 := fun h => hk (by unfold okL at h; omega)
        have HX := hd (show labV k 1 = [] ∧ decide (okL k 1) = false from ⟨by rw [labV, if_neg e1], by simp [e1]⟩)
        clear hk e1
        go_enter Tryz.func179, Tryz.ntmps179
        go_wp2
        go_ret2
        exact ⟨retSB (by rw [HX.o.1]; rfl) HX.o.2.symm, rfl⟩
      · have e1 : ¬ okL k 2 := fun h => hk (by unfold okL at h; omega)
        have HX := hd (show labV k 2 = [] ∧ decide (okL k 2) = false from ⟨by rw [labV, if_neg e1], by simp [e1]⟩)
        clear hk e1
        go_enter Tryz.func179, Tryz.ntmps179
        go_wp2
        go_ret2
        exact ⟨retSB (by rw [HX.o.1]; rfl) HX.o.2.symm, rfl⟩
      · have e1 : ¬ okL k 3 := fun h => hk (by unfold okL at h; omega)
        have HX := hd (show labV k 3 = [] ∧ decide (okL k 3) = false from ⟨by rw [labV, if_neg e1], by simp [e1]⟩)
        clear hk e1
        go_enter Tryz.func179, Tryz.ntmps179
        go_wp2
        go_ret2
        exact ⟨retSB (by rw [HX.o.1]; rfl) HX.o.2.symm, rfl⟩
  · have e1 : ¬ okL k l := fun h => hl (by unfold okL at h; omega)
    have HX := hd (show labV k l = [] ∧ decide (okL k l) = false from ⟨by rw [labV, if_neg e1], by simp [e1]⟩)
    have n0 : (l == 0) = false := by simp; omega
    have n1 : (l == 1) = false := by simp; omega
    have n2 : (l == 2) = false := by simp; omega
    have n3 : (l == 3) = false := by simp; omega
    clear hl e1
    go_enter Tryz.func179, Tryz.ntmps179
    go_wp2
    go_ret2
    exact ⟨retSB (by rw [HX.o.1]; rfl) HX.o.2.symm, rfl⟩

theorem cutc_calls (c : UInt8) (s : ByteArray) (hs : s.size ≤ 1000000000) (w : World) (ht : Tbl w) : Calls Tryz.prog 157 #[.string s, .string ⟨#[c]⟩] w fun e w' => (e = .returned (if c ∈ s.data.toList then .tuple #[.string (bs (bef c s.data.toList)), .string (bs (aft c s.data.toList)), .bool true] else .tuple #[.string s, .string (bs []), .bool false])) ∧ Below w.heap.size w w' := by
  obtain ⟨m, hm⟩ := ht.2
  refine (Any.strings_Cut { laysM145 with } s ⟨#[c]⟩ m w (by omega) hm).mono ?_
  rintro e w' ⟨rfl, n, rfl⟩
  refine ⟨?_, bdrewN (Below.refl _ _) _⟩
  rw [show (⟨#[c]⟩ : ByteArray).data.toList = [c] from rfl, cut_one]
  by_cases h : c ∈ s.data.toList
  · rw [if_pos h, if_pos h]; rfl
  · rw [if_neg h, if_neg h]; rfl

end Go.Proofs.YtfacfdjapjhpeaaGreatDoor
namespace Go.Proofs.YtfacfdjapjhpeaaGreatDoor
open Go.RowKit Go.Lib

theorem less_cmp : ∀ a b : List UInt8, Op.bytesLess a b = decide (compareBytes a b < 0)
  | [], [] => by simp [Op.bytesLess, compareBytes]
  | [], _ :: _ => by simp [Op.bytesLess, compareBytes]
  | _ :: _, [] => by simp [Op.bytesLess, compareBytes]
  | a :: t1, b :: t2 => by
    rw [Op.bytesLess, cmp_cons, less_cmp t1 t2]
    by_cases h1 : a.toNat < b.toNat
    · have h : a < b := (u8_lt a b).2 h1
      simp [h1, h]
    · have h : ¬ a < b := fun h => h1 ((u8_lt a b).1 h)
      by_cases h2 : b.toNat < a.toNat
      · have hne : ¬ a = b := fun e => by rw [e] at h2; omega
        simp [h1, h2, h, hne]
      · have he : a = b := UInt8.toNat_inj.1 (by omega)
        subst he
        simp [h1]
theorem bytesLess_dec (a b : List UInt8) : Op.bytesLess (bs a).toList (bs b).toList = decide (compareBytes a b < 0) := by
  rw [less_cmp, toList_data, toList_data]
  rfl
theorem twoB (w : World) (o1 o2 : Obj) : Below w.heap.size w ((w.alloc o1).alloc o2) := ((Below.refl _ w).alloc (Nat.le_refl _) _).alloc (by simp) _
theorem retBB {a b : Bool} (h : a = b) : Ending.returned (.bool a) = .returned (.bool b) := by rw [h]

end Go.Proofs.YtfacfdjapjhpeaaGreatDoor
namespace Go.Proofs.YtfacfdjapjhpeaaGreatDoor
open Go.RowKit

theorem two_cell (w W : World) (t : TypeId) (c1 c2 : Array Value)
    (hb : Below ((w.alloc (.cells c1 t)).alloc (.cells c2 t)).heap.size ((w.alloc (.cells c1 t)).alloc (.cells c2 t)) W) :
    Blk W w.heap.size t c1 ∧ Blk W (w.heap.size + 1) t c2 :=
  ⟨((Blk.new w t c1).alloc _).below hb (by simp; omega), (Blk.new_ (w.alloc (.cells c1 t)) (w.heap.size + 1) (by simp) t c2).below hb (by simp)⟩
theorem two_bel (w W : World) (o1 o2 : Obj) (hb : Below ((w.alloc o1).alloc o2).heap.size ((w.alloc o1).alloc o2) W) : Below w.heap.size w W :=
  (((Below.refl _ w).alloc (Nat.le_refl _) _).alloc (by simp) _).trans (hb.mono (by simp; omega))
theorem res_cell {P : Program} {fn : Func} {p u : Tmp} {ty : TypeId} (h : fn.results = #[.cell p ty, .tmp u]) (tmps : Array Value) (w : World) (g : Nat) (t : TypeId) (cs : Array Value) (fr : Nat × Nat) (d : TypeDesc)
    (hp : tmps.getD p undef = .pointer (some ⟨g, 0, none⟩)) (hg : w.heap[g]? = some (.cells cs t fr))
    (hu : P.underlying ty = some d) (hd : (match d with | .struct _ | .array _ _ => true | _ => false) = true) (hi : (P.info? ty).map (·.size) = some cs.size) :
    (results fn tmps).run P w = .ok (.tuple #[.agg cs, tmps.getD u undef]) w := by
  rw [results_cell_tmp h, hp]
  simp [asAddr, run_loadVar_row w g t ty cs fr d hg hu hd hi, Result.andThen]
def fldR (f : Fld) (e : Int) : Value := .tuple #[fldV f, .int .i64 e]
theorem retF {f g : Fld} {a b : Int} (h : f = g) (k : a = b) : Ending.returned (fldR f a) = .returned (fldR g b) := by rw [h, k]
def resF (f : Fld) (e : Int) : Fld := if e = 0 then f else noFld
theorem resF_0 (f : Fld) : resF f 0 = f := if_pos rfl
theorem resF_e (f : Fld) {e : Int} (h : e ≠ 0) : resF f e = noFld := if_neg h

set_option maxRecDepth 100000 in
set_option maxHeartbeats 1000000 in
theorem fcanon_bad1 (k l : Int) (v lab : ByteArray) (w : World) (H1 : Hd (∀ W, Calls Tryz.prog 179 #[.int .i64 k, .int .i64 l] W fun e w' => e = .returned (.tuple #[.string lab, .bool false]) ∧ W = w')) :
    Calls Tryz.prog 202 #[.agg #[.int .i64 k, .int .i64 l, .string v]] w fun e w' => e = .returned (fldR noFld 1) ∧ Below w.heap.size w w' := by
  obtain ⟨X, hX⟩ : ∃ X, X = (w.alloc (.cells #[.int .i64 k, .int .i64 l, .string v] 230)).alloc (.cells #[.int .i64 0, .int .i64 0, .string ⟨#[]⟩] 230) := ⟨_, rfl⟩
  have HC := hd (fun W (hb : Below X.heap.size X W) => two_cell w W 230 #[.int .i64 k, .int .i64 l, .string v] #[.int .i64 0, .int .i64 0, .string ⟨#[]⟩] (by rw [← hX]; exact hb))
  have HW := hd (fun W (hb : Below X.heap.size X W) => two_bel w W (.cells #[.int .i64 k, .int .i64 l, .string v] 230) (.cells #[.int .i64 0, .int .i64 0, .string ⟨#[]⟩] 230) (by rw [← hX]; exact hb))
  have HB0 := hd (Below.refl X.heap.size X)
  have hx := hd hX
  clear hX
  go_enter Tryz.func202, Tryz.ntmps202
  go_wp2_with fail
  rw [← hx.o]
  obtain ⟨k1, k2⟩ := HC.o _ HB0.o
  have a0 := k1.at_ 0 rfl
  have a1 := k1.at_ 1 rfl
  have a2 := k1.at_ 2 rfl
  have f0 := k1.frozen 0
  have f1 := k1.frozen 1
  have f2 := k1.frozen 2
  have b0 := k2.at_ 0 rfl
  have b1 := k2.at_ 1 rfl
  have b2 := k2.at_ 2 rfl
  have g0 := k2.frozen 0
  have g1 := k2.frozen 1
  have g2 := k2.frozen 2
  have hl : w.heap.size < _ := k1.lt
  have hl2 : w.heap.size + 1 < _ := k2.lt
  have K1 := hd k1
  have K2 := hd k2
  clear k1 k2
  go_wp2_with fail
  refine (H1.o _).mono ?_
  rintro e w1 ⟨rfl, rfl⟩
  go_wp2
  (try simp only [Exit.inBlock, Exit.then])
  refine bodyPost_ret (res_cell rfl _ _ _ _ _ _ _ rfl (((K2.o.set_ 0 _).set_ 1 _).set_ 2 _) rfl rfl rfl) rfl ⟨?_, ?_⟩
  · exact retF (f := noFld) (a := 1) rfl rfl
  · exact ((((HW.o _ HB0.o).setCell (Nat.le_succ _) _).setCell (Nat.le_succ _) _).setCell (Nat.le_succ _) _)

set_option maxRecDepth 100000 in
set_option maxHeartbeats 1000000 in
theorem fcanon_bad2 (k l : Int) (v lab kd : ByteArray) (w : World) (H1 : Hd (∀ W, Calls Tryz.prog 179 #[.int .i64 k, .int .i64 l] W fun e w' => e = .returned (.tuple #[.string lab, .bool true]) ∧ W = w')) (H2 : Hd (∀ W, Calls Tryz.prog 180 #[.int .i64 k] W fun e w' => e = .returned (.string kd) ∧ W = w')) (hkd : (kd.toList == []) = true) :
    Calls Tryz.prog 202 #[.agg #[.int .i64 k, .int .i64 l, .string v]] w fun e w' => e = .returned (fldR noFld 1) ∧ Below w.heap.size w w' := by
  obtain ⟨X, hX⟩ : ∃ X, X = (w.alloc (.cells #[.int .i64 k, .int .i64 l, .string v] 230)).alloc (.cells #[.int .i64 0, .int .i64 0, .string ⟨#[]⟩] 230) := ⟨_, rfl⟩
  have HC := hd (fun W (hb : Below X.heap.size X W) => two_cell w W 230 #[.int .i64 k, .int .i64 l, .string v] #[.int .i64 0, .int .i64 0, .string ⟨#[]⟩] (by rw [← hX]; exact hb))
  have HW := hd (fun W (hb : Below X.heap.size X W) => two_bel w W (.cells #[.int .i64 k, .int .i64 l, .string v] 230) (.cells #[.int .i64 0, .int .i64 0, .string ⟨#[]⟩] 230) (by rw [← hX]; exact hb))
  have HB0 := hd (Below.refl X.heap.size X)
  have hx := hd hX
  clear hX
  go_enter Tryz.func202, Tryz.ntmps202
  go_wp2_with fail
  rw [← hx.o]
  obtain ⟨k1, k2⟩ := HC.o _ HB0.o
  have a0 := k1.at_ 0 rfl
  have a1 := k1.at_ 1 rfl
  have a2 := k1.at_ 2 rfl
  have f0 := k1.frozen 0
  have f1 := k1.frozen 1
  have f2 := k1.frozen 2
  have b0 := k2.at_ 0 rfl
  have b1 := k2.at_ 1 rfl
  have b2 := k2.at_ 2 rfl
  have g0 := k2.frozen 0
  have g1 := k2.frozen 1
  have g2 := k2.frozen 2
  have hl : w.heap.size < _ := k1.lt
  have hl2 : w.heap.size + 1 < _ := k2.lt
  have K1 := hd k1
  have K2 := hd k2
  clear k1 k2
  go_wp2_with fail
  refine (H1.o _).mono ?_
  rintro e w1 ⟨rfl, rfl⟩
  go_wp2_with fail
  refine (H2.o _).mono ?_
  rintro e w1 ⟨rfl, rfl⟩
  go_wp2
  (try simp only [Exit.inBlock, Exit.then])
  refine bodyPost_ret (res_cell rfl _ _ _ _ _ _ _ rfl (((K2.o.set_ 0 _).set_ 1 _).set_ 2 _) rfl rfl rfl) rfl ⟨?_, ?_⟩
  · exact retF (f := noFld) (a := 1) rfl rfl
  · exact ((((HW.o _ HB0.o).setCell (Nat.le_succ _) _).setCell (Nat.le_succ _) _).setCell (Nat.le_succ _) _)

set_option maxRecDepth 100000 in
set_option maxHeartbeats 2000000 in
theorem fcanon_3 (l : Int) (v : ByteArray) (lab kd : ByteArray) (T : List UInt8) (E : Int) (R : Int) (HR : Hd (R = E)) (w : World)
    (H1 : Hd (∀ W, Calls Tryz.prog 179 #[.int .i64 3, .int .i64 l] W fun e w' => e = .returned (.tuple #[.string lab, .bool true]) ∧ W = w'))
    (H2 : Hd (∀ W, Calls Tryz.prog 180 #[.int .i64 3] W fun e w' => e = .returned (.string kd) ∧ W = w')) (hkd : (kd.toList == []) = false)
    (H3 : Hd (∀ W, Below w.heap.size w W → Calls Tryz.prog 225 #[.string v] W fun e w' => e = .returned (.tuple #[.string (bs T), .int .i64 E]) ∧ Below W.heap.size W w')) :
    Calls Tryz.prog 202 #[.agg #[.int .i64 3, .int .i64 l, .string v]] w fun e w' => e = .returned (fldR (resF ⟨3, l, T⟩ R) R) ∧ Below w.heap.size w w' := by
  obtain ⟨X, hX⟩ : ∃ X, X = (w.alloc (.cells #[.int .i64 3, .int .i64 l, .string v] 230)).alloc (.cells #[.int .i64 0, .int .i64 0, .string ⟨#[]⟩] 230) := ⟨_, rfl⟩
  have HC := hd (fun W (hb : Below X.heap.size X W) => two_cell w W 230 #[.int .i64 3, .int .i64 l, .string v] #[.int .i64 0, .int .i64 0, .string ⟨#[]⟩] (by rw [← hX]; exact hb))
  have HW := hd (fun W (hb : Below X.heap.size X W) => two_bel w W (.cells #[.int .i64 3, .int .i64 l, .string v] 230) (.cells #[.int .i64 0, .int .i64 0, .string ⟨#[]⟩] 230) (by rw [← hX]; exact hb))
  have HB0 := hd (Below.refl X.heap.size X)
  have hx := hd hX
  clear hX
  by_cases hE : E = 0
  · subst hE
    go_enter Tryz.func202, Tryz.ntmps202
    go_wp2_with fail
    rw [← hx.o]
    obtain ⟨k1, k2⟩ := HC.o _ HB0.o
    have a0 := k1.at_ 0 rfl
    have a1 := k1.at_ 1 rfl
    have a2 := k1.at_ 2 rfl
    have f0 := k1.frozen 0
    have f1 := k1.frozen 1
    have f2 := k1.frozen 2
    have b0 := k2.at_ 0 rfl
    have b1 := k2.at_ 1 rfl
    have b2 := k2.at_ 2 rfl
    have g0 := k2.frozen 0
    have g1 := k2.frozen 1
    have g2 := k2.frozen 2
    have hl : w.heap.size < _ := k1.lt
    have hl2 : w.heap.size + 1 < _ := k2.lt
    have K1 := hd k1
    have K2 := hd k2
    clear k1 k2
    go_wp2_with fail
    refine (H1.o _).mono ?_
    rintro e w1 ⟨rfl, rfl⟩
    go_wp2_with fail
    refine (H2.o _).mono ?_
    rintro e w1 ⟨rfl, rfl⟩
    go_wp2_with fail
    refine (H3.o _ (HW.o _ HB0.o)).mono ?_
    rintro e w2 ⟨rfl, hb2⟩
    have HB2 := hd hb2
    clear hb2
    clear a0 a1 a2 f0 f1 f2 b0 b1 b2 g0 g1 g2 hl hl2 K1 K2
    obtain ⟨k1, k2⟩ := HC.o _ HB2.o
    have a0 := k1.at_ 0 rfl
    have a1 := k1.at_ 1 rfl
    have a2 := k1.at_ 2 rfl
    have f0 := k1.frozen 0
    have f1 := k1.frozen 1
    have f2 := k1.frozen 2
    have b0 := k2.at_ 0 rfl
    have b1 := k2.at_ 1 rfl
    have b2 := k2.at_ 2 rfl
    have g0 := k2.frozen 0
    have g1 := k2.frozen 1
    have g2 := k2.frozen 2
    have hl : w.heap.size < _ := k1.lt
    have hl2 : w.heap.size + 1 < _ := k2.lt
    have K1 := hd k1
    have K2 := hd k2
    clear k1 k2
    go_wp2
    (try simp only [Exit.inBlock, Exit.then])
    refine bodyPost_ret (res_cell rfl _ _ _ _ _ _ _ rfl ((((K2.o.far (by show w.heap.size + 1 ≠ w.heap.size; omega) _).set_ 0 _).set_ 1 _).set_ 2 _) rfl rfl rfl) rfl ⟨?_, ?_⟩
    · exact retF (f := ⟨3, l, T⟩) (a := 0) (by rw [HR.o, resF_0]) (by rw [HR.o])
    · exact (((((HW.o _ HB2.o).setCell (Nat.le_refl _) _).setCell (Nat.le_succ _) _).setCell (Nat.le_succ _) _).setCell (Nat.le_succ _) _)
  · have nE : (E != 0) = true := by simpa using hE
    have eE : (E == 0) = false := by simpa using hE
    have HE := hd hE
    clear hE
    go_enter Tryz.func202, Tryz.ntmps202
    go_wp2_with fail
    rw [← hx.o]
    obtain ⟨k1, k2⟩ := HC.o _ HB0.o
    have a0 := k1.at_ 0 rfl
    have a1 := k1.at_ 1 rfl
    have a2 := k1.at_ 2 rfl
    have f0 := k1.frozen 0
    have f1 := k1.frozen 1
    have f2 := k1.frozen 2
    have b0 := k2.at_ 0 rfl
    have b1 := k2.at_ 1 rfl
    have b2 := k2.at_ 2 rfl
    have g0 := k2.frozen 0
    have g1 := k2.frozen 1
    have g2 := k2.frozen 2
    have hl : w.heap.size < _ := k1.lt
    have hl2 : w.heap.size + 1 < _ := k2.lt
    have K1 := hd k1
    have K2 := hd k2
    clear k1 k2
    go_wp2_with fail
    refine (H1.o _).mono ?_
    rintro e w1 ⟨rfl, rfl⟩
    go_wp2_with fail
    refine (H2.o _).mono ?_
    rintro e w1 ⟨rfl, rfl⟩
    go_wp2_with fail
    refine (H3.o _ (HW.o _ HB0.o)).mono ?_
    rintro e w2 ⟨rfl, hb2⟩
    have HB2 := hd hb2
    clear hb2
    clear a0 a1 a2 f0 f1 f2 b0 b1 b2 g0 g1 g2 hl hl2 K1 K2
    obtain ⟨k1, k2⟩ := HC.o _ HB2.o
    have a0 := k1.at_ 0 rfl
    have a1 := k1.at_ 1 rfl
    have a2 := k1.at_ 2 rfl
    have f0 := k1.frozen 0
    have f1 := k1.frozen 1
    have f2 := k1.frozen 2
    have b0 := k2.at_ 0 rfl
    have b1 := k2.at_ 1 rfl
    have b2 := k2.at_ 2 rfl
    have g0 := k2.frozen 0
    have g1 := k2.frozen 1
    have g2 := k2.frozen 2
    have hl : w.heap.size < _ := k1.lt
    have hl2 : w.heap.size + 1 < _ := k2.lt
    have K1 := hd k1
    have K2 := hd k2
    clear k1 k2
    go_wp2
    (try simp only [Exit.inBlock, Exit.then])
    refine bodyPost_ret (res_cell rfl _ _ _ _ _ _ _ rfl (((K2.o.set_ 0 _).set_ 1 _).set_ 2 _) rfl rfl rfl) rfl ⟨?_, ?_⟩
    · exact retF (f := noFld) (a := E) (by rw [HR.o, resF_e _ HE.o]) (by rw [HR.o])
    · exact ((((HW.o _ HB2.o).setCell (Nat.le_succ _) _).setCell (Nat.le_succ _) _).setCell (Nat.le_succ _) _)

set_option maxRecDepth 100000 in
set_option maxHeartbeats 2000000 in
theorem fcanon_4 (l : Int) (v : ByteArray) (lab kd : ByteArray) (T : List UInt8) (E : Int) (R : Int) (HR : Hd (R = E)) (w : World)
    (H1 : Hd (∀ W, Calls Tryz.prog 179 #[.int .i64 4, .int .i64 l] W fun e w' => e = .returned (.tuple #[.string lab, .bool true]) ∧ W = w'))
    (H2 : Hd (∀ W, Calls Tryz.prog 180 #[.int .i64 4] W fun e w' => e = .returned (.string kd) ∧ W = w')) (hkd : (kd.toList == []) = false)
    (H3 : Hd (∀ W, Below w.heap.size w W → Calls Tryz.prog 226 #[.string v] W fun e w' => e = .returned (.tuple #[.string (bs T), .int .i64 E]) ∧ Below W.heap.size W w')) :
    Calls Tryz.prog 202 #[.agg #[.int .i64 4, .int .i64 l, .string v]] w fun e w' => e = .returned (fldR (resF ⟨4, l, T⟩ R) R) ∧ Below w.heap.size w w' := by
  obtain ⟨X, hX⟩ : ∃ X, X = (w.alloc (.cells #[.int .i64 4, .int .i64 l, .string v] 230)).alloc (.cells #[.int .i64 0, .int .i64 0, .string ⟨#[]⟩] 230) := ⟨_, rfl⟩
  have HC := hd (fun W (hb : Below X.heap.size X W) => two_cell w W 230 #[.int .i64 4, .int .i64 l, .string v] #[.int .i64 0, .int .i64 0, .string ⟨#[]⟩] (by rw [← hX]; exact hb))
  have HW := hd (fun W (hb : Below X.heap.size X W) => two_bel w W (.cells #[.int .i64 4, .int .i64 l, .string v] 230) (.cells #[.int .i64 0, .int .i64 0, .string ⟨#[]⟩] 230) (by rw [← hX]; exact hb))
  have HB0 := hd (Below.refl X.heap.size X)
  have hx := hd hX
  clear hX
  by_cases hE : E = 0
  · subst hE
    go_enter Tryz.func202, Tryz.ntmps202
    go_wp2_with fail
    rw [← hx.o]
    obtain ⟨k1, k2⟩ := HC.o _ HB0.o
    have a0 := k1.at_ 0 rfl
    have a1 := k1.at_ 1 rfl
    have a2 := k1.at_ 2 rfl
    have f0 := k1.frozen 0
    have f1 := k1.frozen 1
    have f2 := k1.frozen 2
    have b0 := k2.at_ 0 rfl
    have b1 := k2.at_ 1 rfl
    have b2 := k2.at_ 2 rfl
    have g0 := k2.frozen 0
    have g1 := k2.frozen 1
    have g2 := k2.frozen 2
    have hl : w.heap.size < _ := k1.lt
    have hl2 : w.heap.size + 1 < _ := k2.lt
    have K1 := hd k1
    have K2 := hd k2
    clear k1 k2
    go_wp2_with fail
    refine (H1.o _).mono ?_
    rintro e w1 ⟨rfl, rfl⟩
    go_wp2_with fail
    refine (H2.o _).mono ?_
    rintro e w1 ⟨rfl, rfl⟩
    go_wp2_with fail
    refine (H3.o _ (HW.o _ HB0.o)).mono ?_
    rintro e w2 ⟨rfl, hb2⟩
    have HB2 := hd hb2
    clear hb2
    clear a0 a1 a2 f0 f1 f2 b0 b1 b2 g0 g1 g2 hl hl2 K1 K2
    obtain ⟨k1, k2⟩ := HC.o _ HB2.o
    have a0 := k1.at_ 0 rfl
    have a1 := k1.at_ 1 rfl
    have a2 := k1.at_ 2 rfl
    have f0 := k1.frozen 0
    have f1 := k1.frozen 1
    have f2 := k1.frozen 2
    have b0 := k2.at_ 0 rfl
    have b1 := k2.at_ 1 rfl
    have b2 := k2.at_ 2 rfl
    have g0 := k2.frozen 0
    have g1 := k2.frozen 1
    have g2 := k2.frozen 2
    have hl : w.heap.size < _ := k1.lt
    have hl2 : w.heap.size + 1 < _ := k2.lt
    have K1 := hd k1
    have K2 := hd k2
    clear k1 k2
    go_wp2
    (try simp only [Exit.inBlock, Exit.then])
    refine bodyPost_ret (res_cell rfl _ _ _ _ _ _ _ rfl ((((K2.o.far (by show w.heap.size + 1 ≠ w.heap.size; omega) _).set_ 0 _).set_ 1 _).set_ 2 _) rfl rfl rfl) rfl ⟨?_, ?_⟩
    · exact retF (f := ⟨4, l, T⟩) (a := 0) (by rw [HR.o, resF_0]) (by rw [HR.o])
    · exact (((((HW.o _ HB2.o).setCell (Nat.le_refl _) _).setCell (Nat.le_succ _) _).setCell (Nat.le_succ _) _).setCell (Nat.le_succ _) _)
  · have nE : (E != 0) = true := by simpa using hE
    have eE : (E == 0) = false := by simpa using hE
    have HE := hd hE
    clear hE
    go_enter Tryz.func202, Tryz.ntmps202
    go_wp2_with fail
    rw [← hx.o]
    obtain ⟨k1, k2⟩ := HC.o _ HB0.o
    have a0 := k1.at_ 0 rfl
    have a1 := k1.at_ 1 rfl
    have a2 := k1.at_ 2 rfl
    have f0 := k1.frozen 0
    have f1 := k1.frozen 1
    have f2 := k1.frozen 2
    have b0 := k2.at_ 0 rfl
    have b1 := k2.at_ 1 rfl
    have b2 := k2.at_ 2 rfl
    have g0 := k2.frozen 0
    have g1 := k2.frozen 1
    have g2 := k2.frozen 2
    have hl : w.heap.size < _ := k1.lt
    have hl2 : w.heap.size + 1 < _ := k2.lt
    have K1 := hd k1
    have K2 := hd k2
    clear k1 k2
    go_wp2_with fail
    refine (H1.o _).mono ?_
    rintro e w1 ⟨rfl, rfl⟩
    go_wp2_with fail
    refine (H2.o _).mono ?_
    rintro e w1 ⟨rfl, rfl⟩
    go_wp2_with fail
    refine (H3.o _ (HW.o _ HB0.o)).mono ?_
    rintro e w2 ⟨rfl, hb2⟩
    have HB2 := hd hb2
    clear hb2
    clear a0 a1 a2 f0 f1 f2 b0 b1 b2 g0 g1 g2 hl hl2 K1 K2
    obtain ⟨k1, k2⟩ := HC.o _ HB2.o
    have a0 := k1.at_ 0 rfl
    have a1 := k1.at_ 1 rfl
    have a2 := k1.at_ 2 rfl
    have f0 := k1.frozen 0
    have f1 := k1.frozen 1
    have f2 := k1.frozen 2
    have b0 := k2.at_ 0 rfl
    have b1 := k2.at_ 1 rfl
    have b2 := k2.at_ 2 rfl
    have g0 := k2.frozen 0
    have g1 := k2.frozen 1
    have g2 := k2.frozen 2
    have hl : w.heap.size < _ := k1.lt
    have hl2 : w.heap.size + 1 < _ := k2.lt
    have K1 := hd k1
    have K2 := hd k2
    clear k1 k2
    go_wp2
    (try simp only [Exit.inBlock, Exit.then])
    refine bodyPost_ret (res_cell rfl _ _ _ _ _ _ _ rfl (((K2.o.set_ 0 _).set_ 1 _).set_ 2 _) rfl rfl rfl) rfl ⟨?_, ?_⟩
    · exact retF (f := noFld) (a := E) (by rw [HR.o, resF_e _ HE.o]) (by rw [HR.o])
    · exact ((((HW.o _ HB2.o).setCell (Nat.le_succ _) _).setCell (Nat.le_succ _) _).setCell (Nat.le_succ _) _)

set_option maxRecDepth 100000 in
set_option maxHeartbeats 2000000 in
theorem fcanon_o (k : Int) (h1 : 1 ≤ k) (h6 : k ≤ 6) (h3 : k ≠ 3) (h4 : k ≠ 4) (v : ByteArray) (lab kd : ByteArray) (T : List UInt8) (E : Int) (y m d D : Int) (R : Int) (HR : Hd (R = if E = 0 ∧ k = 5 then D else E)) (w : World)
    (H1 : Hd (∀ W, Calls Tryz.prog 179 #[.int .i64 k, .int .i64 0] W fun e w' => e = .returned (.tuple #[.string lab, .bool true]) ∧ W = w'))
    (H2 : Hd (∀ W, Calls Tryz.prog 180 #[.int .i64 k] W fun e w' => e = .returned (.string kd) ∧ W = w')) (hkd : (kd.toList == []) = false)
    (H3 : Hd (∀ W, Below w.heap.size w W → Calls Tryz.prog 227 #[.string v] W fun e w' => e = .returned (.tuple #[.string (bs T), .int .i64 E]) ∧ Below W.heap.size W w'))
    (H4 : Hd (∀ W, Below w.heap.size w W → Calls Tryz.prog 228 #[.string (bs T)] W fun e w' => e = .returned (.tuple #[.agg #[.int .i64 y, .int .i64 m, .int .i64 d], .int .i64 D]) ∧ Below W.heap.size W w')) :
    Calls Tryz.prog 202 #[.agg #[.int .i64 k, .int .i64 0, .string v]] w fun e w' => e = .returned (fldR (resF ⟨k, 0, T⟩ R) R) ∧ Below w.heap.size w w' := by
  obtain ⟨X, hX⟩ : ∃ X, X = (w.alloc (.cells #[.int .i64 k, .int .i64 0, .string v] 230)).alloc (.cells #[.int .i64 0, .int .i64 0, .string ⟨#[]⟩] 230) := ⟨_, rfl⟩
  have HC := hd (fun W (hb : Below X.heap.size X W) => two_cell w W 230 #[.int .i64 k, .int .i64 0, .string v] #[.int .i64 0, .int .i64 0, .string ⟨#[]⟩] (by rw [← hX]; exact hb))
  have HW := hd (fun W (hb : Below X.heap.size X W) => two_bel w W (.cells #[.int .i64 k, .int .i64 0, .string v] 230) (.cells #[.int .i64 0, .int .i64 0, .string ⟨#[]⟩] 230) (by rw [← hX]; exact hb))
  have HB0 := hd (Below.refl X.heap.size X)
  have hx := hd hX
  clear hX
  have n3 : (k == 3) = false := by simpa using h3
  have n4 : (k == 4) = false := by simpa using h4
  have m3 : (k != 3) = true := by simpa using h3
  have m4 : (k != 4) = true := by simpa using h4
  clear h3 h4
  by_cases hE : E = 0
  · subst hE
    by_cases h5 : k = 5
    · subst h5
      rw [if_pos ⟨rfl, rfl⟩] at HR
      by_cases hD : D = 0
      · subst hD
        go_enter Tryz.func202, Tryz.ntmps202
        go_wp2_with fail
        rw [← hx.o]
        obtain ⟨k1, k2⟩ := HC.o _ HB0.o
        have a0 := k1.at_ 0 rfl
        have a1 := k1.at_ 1 rfl
        have a2 := k1.at_ 2 rfl
        have f0 := k1.frozen 0
        have f1 := k1.frozen 1
        have f2 := k1.frozen 2
        have b0 := k2.at_ 0 rfl
        have b1 := k2.at_ 1 rfl
        have b2 := k2.at_ 2 rfl
        have g0 := k2.frozen 0
        have g1 := k2.frozen 1
        have g2 := k2.frozen 2
        have hl : w.heap.size < _ := k1.lt
        have hl2 : w.heap.size + 1 < _ := k2.lt
        have K1 := hd k1
        have K2 := hd k2
        clear k1 k2
        go_wp2_with fail
        refine (H1.o _).mono ?_
        rintro e w1 ⟨rfl, rfl⟩
        go_wp2_with fail
        refine (H2.o _).mono ?_
        rintro e w1 ⟨rfl, rfl⟩
        go_wp2_with fail
        refine (H3.o _ (HW.o _ HB0.o)).mono ?_
        rintro e w2 ⟨rfl, hb2⟩
        have HB2 := hd hb2
        clear hb2
        clear a0 a1 a2 f0 f1 f2 b0 b1 b2 g0 g1 g2 hl hl2 K1 K2
        obtain ⟨k1, k2⟩ := HC.o _ HB2.o
        have a0 := k1.at_ 0 rfl
        have a1 := k1.at_ 1 rfl
        have a2 := k1.at_ 2 rfl
        have f0 := k1.frozen 0
        have f1 := k1.frozen 1
        have f2 := k1.frozen 2
        have b0 := k2.at_ 0 rfl
        have b1 := k2.at_ 1 rfl
        have b2 := k2.at_ 2 rfl
        have g0 := k2.frozen 0
        have g1 := k2.frozen 1
        have g2 := k2.frozen 2
        have hl : w.heap.size < _ := k1.lt
        have hl2 : w.heap.size + 1 < _ := k2.lt
        have K1 := hd k1
        have K2 := hd k2
        clear k1 k2
        go_wp2_with fail
        refine (H4.o _ (HW.o _ HB2.o)).mono ?_
        rintro e w3 ⟨rfl, hb3⟩
        have HB3 := hd (HB2.o.trans (hb3.mono HB2.o.size))
        clear hb3
        clear a0 a1 a2 f0 f1 f2 b0 b1 b2 g0 g1 g2 hl hl2 K1 K2
        obtain ⟨k1, k2⟩ := HC.o _ HB3.o
        have a0 := k1.at_ 0 rfl
        have a1 := k1.at_ 1 rfl
        have a2 := k1.at_ 2 rfl
        have f0 := k1.frozen 0
        have f1 := k1.frozen 1
        have f2 := k1.frozen 2
        have b0 := k2.at_ 0 rfl
        have b1 := k2.at_ 1 rfl
        have b2 := k2.at_ 2 rfl
        have g0 := k2.frozen 0
        have g1 := k2.frozen 1
        have g2 := k2.frozen 2
        have hl : w.heap.size < _ := k1.lt
        have hl2 : w.heap.size + 1 < _ := k2.lt
        have K1 := hd k1
        have K2 := hd k2
        clear k1 k2
        go_wp2
        (try simp only [Exit.inBlock, Exit.then])
        refine bodyPost_ret (res_cell rfl _ _ _ _ _ _ _ rfl ((((K2.o.far (by show w.heap.size + 1 ≠ w.heap.size; omega) _).set_ 0 _).set_ 1 _).set_ 2 _) rfl rfl rfl) rfl ⟨?_, ?_⟩
        · exact retF (f := ⟨5, 0, T⟩) (a := 0) (by rw [HR.o, resF_0]) (by rw [HR.o])
        · exact (((((HW.o _ HB3.o).setCell (Nat.le_refl _) _).setCell (Nat.le_succ _) _).setCell (Nat.le_succ _) _).setCell (Nat.le_succ _) _)
      · have nE : (D != 0) = true := by simpa using hD
        have eE : (D == 0) = false := by simpa using hD
        have HE := hd hD
        clear hD
        go_enter Tryz.func202, Tryz.ntmps202
        go_wp2_with fail
        rw [← hx.o]
        obtain ⟨k1, k2⟩ := HC.o _ HB0.o
        have a0 := k1.at_ 0 rfl
        have a1 := k1.at_ 1 rfl
        have a2 := k1.at_ 2 rfl
        have f0 := k1.frozen 0
        have f1 := k1.frozen 1
        have f2 := k1.frozen 2
        have b0 := k2.at_ 0 rfl
        have b1 := k2.at_ 1 rfl
        have b2 := k2.at_ 2 rfl
        have g0 := k2.frozen 0
        have g1 := k2.frozen 1
        have g2 := k2.frozen 2
        have hl : w.heap.size < _ := k1.lt
        have hl2 : w.heap.size + 1 < _ := k2.lt
        have K1 := hd k1
        have K2 := hd k2
        clear k1 k2
        go_wp2_with fail
        refine (H1.o _).mono ?_
        rintro e w1 ⟨rfl, rfl⟩
        go_wp2_with fail
        refine (H2.o _).mono ?_
        rintro e w1 ⟨rfl, rfl⟩
        go_wp2_with fail
        refine (H3.o _ (HW.o _ HB0.o)).mono ?_
        rintro e w2 ⟨rfl, hb2⟩
        have HB2 := hd hb2
        clear hb2
        clear a0 a1 a2 f0 f1 f2 b0 b1 b2 g0 g1 g2 hl hl2 K1 K2
        obtain ⟨k1, k2⟩ := HC.o _ HB2.o
        have a0 := k1.at_ 0 rfl
        have a1 := k1.at_ 1 rfl
        have a2 := k1.at_ 2 rfl
        have f0 := k1.frozen 0
        have f1 := k1.frozen 1
        have f2 := k1.frozen 2
        have b0 := k2.at_ 0 rfl
        have b1 := k2.at_ 1 rfl
        have b2 := k2.at_ 2 rfl
        have g0 := k2.frozen 0
        have g1 := k2.frozen 1
        have g2 := k2.frozen 2
        have hl : w.heap.size < _ := k1.lt
        have hl2 : w.heap.size + 1 < _ := k2.lt
        have K1 := hd k1
        have K2 := hd k2
        clear k1 k2
        go_wp2_with fail
        refine (H4.o _ (HW.o _ HB2.o)).mono ?_
        rintro e w3 ⟨rfl, hb3⟩
        have HB3 := hd (HB2.o.trans (hb3.mono HB2.o.size))
        clear hb3
        clear a0 a1 a2 f0 f1 f2 b0 b1 b2 g0 g1 g2 hl hl2 K1 K2
        obtain ⟨k1, k2⟩ := HC.o _ HB3.o
        have a0 := k1.at_ 0 rfl
        have a1 := k1.at_ 1 rfl
        have a2 := k1.at_ 2 rfl
        have f0 := k1.frozen 0
        have f1 := k1.frozen 1
        have f2 := k1.frozen 2
        have b0 := k2.at_ 0 rfl
        have b1 := k2.at_ 1 rfl
        have b2 := k2.at_ 2 rfl
        have g0 := k2.frozen 0
        have g1 := k2.frozen 1
        have g2 := k2.frozen 2
        have hl : w.heap.size < _ := k1.lt
        have hl2 : w.heap.size + 1 < _ := k2.lt
        have K1 := hd k1
        have K2 := hd k2
        clear k1 k2
        go_wp2
        (try simp only [Exit.inBlock, Exit.then])
        refine bodyPost_ret (res_cell rfl _ _ _ _ _ _ _ rfl (((K2.o.set_ 0 _).set_ 1 _).set_ 2 _) rfl rfl rfl) rfl ⟨?_, ?_⟩
        · exact retF (f := noFld) (a := D) (by rw [HR.o, resF_e _ HE.o]) (by rw [HR.o])
        · exact ((((HW.o _ HB3.o).setCell (Nat.le_succ _) _).setCell (Nat.le_succ _) _).setCell (Nat.le_succ _) _)
    · rw [if_neg (fun h => h5 h.2)] at HR
      have n5 : (k == 5) = false := by simpa using h5
      clear h5 H4
      go_enter Tryz.func202, Tryz.ntmps202
      go_wp2_with fail
      rw [← hx.o]
      obtain ⟨k1, k2⟩ := HC.o _ HB0.o
      have a0 := k1.at_ 0 rfl
      have a1 := k1.at_ 1 rfl
      have a2 := k1.at_ 2 rfl
      have f0 := k1.frozen 0
      have f1 := k1.frozen 1
      have f2 := k1.frozen 2
      have b0 := k2.at_ 0 rfl
      have b1 := k2.at_ 1 rfl
      have b2 := k2.at_ 2 rfl
      have g0 := k2.frozen 0
      have g1 := k2.frozen 1
      have g2 := k2.frozen 2
      have hl : w.heap.size < _ := k1.lt
      have hl2 : w.heap.size + 1 < _ := k2.lt
      have K1 := hd k1
      have K2 := hd k2
      clear k1 k2
      go_wp2_with fail
      refine (H1.o _).mono ?_
      rintro e w1 ⟨rfl, rfl⟩
      go_wp2_with fail
      refine (H2.o _).mono ?_
      rintro e w1 ⟨rfl, rfl⟩
      go_wp2_with fail
      refine (H3.o _ (HW.o _ HB0.o)).mono ?_
      rintro e w2 ⟨rfl, hb2⟩
      have HB2 := hd hb2
      clear hb2
      clear a0 a1 a2 f0 f1 f2 b0 b1 b2 g0 g1 g2 hl hl2 K1 K2
      obtain ⟨k1, k2⟩ := HC.o _ HB2.o
      have a0 := k1.at_ 0 rfl
      have a1 := k1.at_ 1 rfl
      have a2 := k1.at_ 2 rfl
      have f0 := k1.frozen 0
      have f1 := k1.frozen 1
      have f2 := k1.frozen 2
      have b0 := k2.at_ 0 rfl
      have b1 := k2.at_ 1 rfl
      have b2 := k2.at_ 2 rfl
      have g0 := k2.frozen 0
      have g1 := k2.frozen 1
      have g2 := k2.frozen 2
      have hl : w.heap.size < _ := k1.lt
      have hl2 : w.heap.size + 1 < _ := k2.lt
      have K1 := hd k1
      have K2 := hd k2
      clear k1 k2
      go_wp2
      (try simp only [Exit.inBlock, Exit.then])
      refine bodyPost_ret (res_cell rfl _ _ _ _ _ _ _ rfl ((((K2.o.far (by show w.heap.size + 1 ≠ w.heap.size; omega) _).set_ 0 _).set_ 1 _).set_ 2 _) rfl rfl rfl) rfl ⟨?_, ?_⟩
      · exact retF (f := ⟨k, 0, T⟩) (a := 0) (by rw [HR.o, resF_0]) (by rw [HR.o])
      · exact (((((HW.o _ HB2.o).setCell (Nat.le_refl _) _).setCell (Nat.le_succ _) _).setCell (Nat.le_succ _) _).setCell (Nat.le_succ _) _)
  · rw [if_neg (fun h => hE h.1)] at HR
    have nE : (E != 0) = true := by simpa using hE
    have eE : (E == 0) = false := by simpa using hE
    have HE := hd hE
    clear hE H4
    go_enter Tryz.func202, Tryz.ntmps202
    go_wp2_with fail
    rw [← hx.o]
    obtain ⟨k1, k2⟩ := HC.o _ HB0.o
    have a0 := k1.at_ 0 rfl
    have a1 := k1.at_ 1 rfl
    have a2 := k1.at_ 2 rfl
    have f0 := k1.frozen 0
    have f1 := k1.frozen 1
    have f2 := k1.frozen 2
    have b0 := k2.at_ 0 rfl
    have b1 := k2.at_ 1 rfl
    have b2 := k2.at_ 2 rfl
    have g0 := k2.frozen 0
    have g1 := k2.frozen 1
    have g2 := k2.frozen 2
    have hl : w.heap.size < _ := k1.lt
    have hl2 : w.heap.size + 1 < _ := k2.lt
    have K1 := hd k1
    have K2 := hd k2
    clear k1 k2
    go_wp2_with fail
    refine (H1.o _).mono ?_
    rintro e w1 ⟨rfl, rfl⟩
    go_wp2_with fail
    refine (H2.o _).mono ?_
    rintro e w1 ⟨rfl, rfl⟩
    go_wp2_with fail
    refine (H3.o _ (HW.o _ HB0.o)).mono ?_
    rintro e w2 ⟨rfl, hb2⟩
    have HB2 := hd hb2
    clear hb2
    clear a0 a1 a2 f0 f1 f2 b0 b1 b2 g0 g1 g2 hl hl2 K1 K2
    obtain ⟨k1, k2⟩ := HC.o _ HB2.o
    have a0 := k1.at_ 0 rfl
    have a1 := k1.at_ 1 rfl
    have a2 := k1.at_ 2 rfl
    have f0 := k1.frozen 0
    have f1 := k1.frozen 1
    have f2 := k1.frozen 2
    have b0 := k2.at_ 0 rfl
    have b1 := k2.at_ 1 rfl
    have b2 := k2.at_ 2 rfl
    have g0 := k2.frozen 0
    have g1 := k2.frozen 1
    have g2 := k2.frozen 2
    have hl : w.heap.size < _ := k1.lt
    have hl2 : w.heap.size + 1 < _ := k2.lt
    have K1 := hd k1
    have K2 := hd k2
    clear k1 k2
    go_wp2
    (try simp only [Exit.inBlock, Exit.then])
    refine bodyPost_ret (res_cell rfl _ _ _ _ _ _ _ rfl (((K2.o.set_ 0 _).set_ 1 _).set_ 2 _) rfl rfl rfl) rfl ⟨?_, ?_⟩
    · exact retF (f := noFld) (a := E) (by rw [HR.o, resF_e _ HE.o]) (by rw [HR.o])
    · exact ((((HW.o _ HB2.o).setCell (Nat.le_succ _) _).setCell (Nat.le_succ _) _).setCell (Nat.le_succ _) _)

end Go.Proofs.YtfacfdjapjhpeaaGreatDoor
namespace Go.Proofs.YtfacfdjapjhpeaaGreatDoor
open Go.RowKit

end Go.Proofs.YtfacfdjapjhpeaaGreatDoor
namespace Go.Proofs.YtfacfdjapjhpeaaGreatDoor
open Go.RowKit

end Go.Proofs.YtfacfdjapjhpeaaGreatDoor
namespace Go.Proofs.YtfacfdjapjhpeaaGreatDoor
open Go.RowKit

theorem bs_toL (l : List UInt8) : (bs l).toList = l := by rw [Lib.toList_data]; rfl
structure EqI (v : Bool) (E : Int) (f g : Fld) : Prop where
  o : v = true ↔ E = 0 ∧ g.k = f.k ∧ g.l = f.l ∧ g.v = f.v
theorem eqF_iff {v : Bool} {E gk gl fk fl : Int} {gv fv : List UInt8} (h : v = decide (E = 0 ∧ (⟨gk, gl, gv⟩ : Fld) = ⟨fk, fl, fv⟩)) : EqI v E ⟨fk, fl, fv⟩ ⟨gk, gl, gv⟩ := ⟨by
  rw [h]; simp⟩

set_option maxHeartbeats 1000000 in
theorem may_of (f g : Fld) (E : Int) (w : World) (C : Hd (∀ W, Below w.heap.size w W → Calls Tryz.prog 202 #[fldV f] W fun e w' => e = .returned (fldR g E) ∧ Below W.heap.size W w')) :
    Calls Tryz.prog 201 #[fldV f] w fun e w' => e = .returned (.bool (decide (E = 0 ∧ g = f))) ∧ Below w.heap.size w w' := by
  obtain ⟨v, hv⟩ : ∃ v, decide (E = 0 ∧ g = f) = v := ⟨_, rfl⟩
  rw [hv]
  obtain ⟨fk, fl, fv⟩ := f
  obtain ⟨gk, gl, gv⟩ := g
  have HV := eqF_iff (E := E) (gk := gk) (gl := gl) (fk := fk) (fl := fl) (gv := gv) (fv := fv) hv.symm
  clear hv
  simp only [fldR, fldV] at C
  change Calls _ _ #[.agg #[.int .i64 fk, .int .i64 fl, .string (bs fv)]] _ _
  have HB0 := hd ((Below.refl w.heap.size w).alloc (Nat.le_refl _) (.cells #[.int .i64 fk, .int .i64 fl, .string (bs fv)] 230))
  have HK := hd (Blk.new w 230 #[.int .i64 fk, .int .i64 fl, .string (bs fv)])
  by_cases hE : E = 0
  · subst hE
    go_enter Tryz.func201, Tryz.ntmps201
    go_wp2_with fail
    refine (C.o _ HB0.o).mono ?_
    rintro e w1 ⟨rfl, hb1⟩
    have k1 := HK.o.below hb1 (by simp)
    have HB1 := hd (HB0.o.trans (hb1.mono HB0.o.size))
    have a0 := k1.at_ 0 rfl
    have a1 := k1.at_ 1 rfl
    have a2 := k1.at_ 2 rfl
    have hl : w.heap.size < w1.heap.size := k1.lt
    clear k1 hb1 HK HB0 C
    go_wp2
    all_goals
      ((try simp only [bs_toL] at *)
       go_ret
       first
         | exact ⟨retBB (HV.o.2 ⟨rfl, by first | rfl | assumption, by first | rfl | assumption, by first | rfl | assumption⟩).symm, HB1.o.alloc HB1.o.size _⟩
         | exact ⟨retBB (Bool.eq_false_iff.2 fun h => by obtain ⟨_, i1, i2, i3⟩ := HV.o.1 h; first | contradiction | (exact absurd i1 (by assumption)) | (exact absurd i2 (by assumption)) | (exact absurd i3 (by assumption))).symm, HB1.o.alloc HB1.o.size _⟩)
  · have n0 : (E == 0) = false := by simpa using hE
    have HX := hd (Bool.eq_false_iff.2 fun h => hE (HV.o.1 h).1)
    clear hE
    go_enter Tryz.func201, Tryz.ntmps201
    go_wp2_with fail
    refine (C.o _ HB0.o).mono ?_
    rintro e w1 ⟨rfl, hb1⟩
    have HB1 := hd (HB0.o.trans (hb1.mono HB0.o.size))
    clear hb1 HK HB0 C
    go_wp2

    go_ret
    exact ⟨retBB HX.o.symm, HB1.o.alloc HB1.o.size _⟩

end Go.Proofs.YtfacfdjapjhpeaaGreatDoor
namespace Go.Proofs.YtfacfdjapjhpeaaGreatDoor
open Go.RowKit Go.Sort

set_option maxHeartbeats 400000 in
theorem rleap_calls (y : Int) (w : World) : Calls Tryz.prog 280 #[.int .i64 y] w fun e w' => e = .returned (.bool (leap y)) ∧ w = w' := by
  by_cases c1 : 1 ≤ y
  · by_cases c2 : y ≤ 9999
    · by_cases c3 : y % 4 = 0
      · have b3 : (y % 4 == 0) = true := by simpa using c3
        by_cases c4 : y % 100 = 0
        · have b4 : (y % 100 == 0) = true := by simpa using c4
          have b4' : (y % 100 != 0) = false := by simpa using c4
          by_cases c5 : y % 400 = 0
          · have b5 : (y % 400 == 0) = true := by simpa using c5
            have e1 : leap y = true := by simp [leap, c1, c2, c3, c5]
            rw [e1]
            clear c3 c4 c5 e1
            go_enter Tryz.func280, Tryz.ntmps280
            go_wp2
            go_ret
            exact ⟨rfl, rfl⟩
          · have b5 : (y % 400 == 0) = false := by simpa using c5
            have e1 : leap y = false := by simp [leap, c1, c2, c3, c4, c5]
            rw [e1]
            clear c3 c4 c5 e1
            go_enter Tryz.func280, Tryz.ntmps280
            go_wp2
            go_ret
            exact ⟨rfl, rfl⟩
        · have b4' : (y % 100 != 0) = true := by simpa using c4
          have e1 : leap y = true := by simp [leap, c1, c2, c3, c4]
          rw [e1]
          clear c3 c4 e1
          go_enter Tryz.func280, Tryz.ntmps280
          go_wp2
          go_ret
          exact ⟨rfl, rfl⟩
      · have b3 : (y % 4 == 0) = false := by simpa using c3
        have e1 : leap y = false := by simp [leap, c1, c2, c3]
        rw [e1]
        clear c3 e1
        go_enter Tryz.func280, Tryz.ntmps280
        go_wp2
        go_ret
        exact ⟨rfl, rfl⟩
    · have e1 : leap y = false := by simp [leap, c1, c2]
      rw [e1]
      clear e1
      go_enter Tryz.func280, Tryz.ntmps280
      go_wp2
      go_ret
      exact ⟨rfl, rfl⟩
  · have e1 : leap y = false := by simp [leap, c1]
    rw [e1]
    clear e1
    go_enter Tryz.func280, Tryz.ntmps280
    go_wp2
    go_ret
    exact ⟨rfl, rfl⟩


theorem two_calls (n : Int) (h0 : 0 ≤ n) (h1 : n ≤ 9999) (w : World) : Calls Tryz.prog 260 #[.int .i64 n] w fun e w' => e = .returned (.string (bs (sh2 n.toNat))) ∧ Below w.heap.size w w' := by
  have hc : (convert 275 9 (.slice (some ⟨w.heap.size, 0, none⟩) 2 2)).run Tryz.prog (w.alloc (.cells #[.int .u8 (48 + n / 10 % 10), .int .u8 (48 + n % 10)] 5)) = .ok (.string (bs (sh2 n.toNat))) (w.alloc (.cells #[.int .u8 (48 + n / 10 % 10), .int .u8 (48 + n % 10)] 5)) := by
    rw [run_convert_bytes_arg _ 275 5 Tryz.underlying275 Tryz.underlying5 w.heap.size 0 2 2 [48 + n / 10 % 10, 48 + n % 10] rfl ?_ 9 Tryz.underlying9]
    · congr 2
      have e1 : (48 + n / 10 % 10).toNat = 48 + n.toNat / 10 % 10 := by omega
      have e2 : (48 + n % 10).toNat = 48 + n.toNat % 10 := by omega
      simp [strOfNums, bs, sh2, e1, e2]
    · intro i hi
      have hb := Blk.new w 5 #[.int .u8 (48 + n / 10 % 10), .int .u8 (48 + n % 10)]
      match i, hi with
      | 0, _ => exact hb.at_ 0 rfl
      | 1, _ => exact hb.at_ 1 rfl
  go_enter Tryz.func260, Tryz.ntmps260
  go_wp2
  go_ret
  exact ⟨rfl, (Below.refl _ w).alloc (Nat.le_refl _) _⟩

set_option maxHeartbeats 4000000 in
theorem month_calls (y m : Int) (h0 : 1 ≤ m) (h1 : m ≤ 12) (w : World) : Calls Tryz.prog 272 #[.int .i64 y, .int .i64 m] w fun e w' => e = .returned (.int .i64 (dm y m)) ∧ Below w.heap.size w w' := by
  by_cases hm : m = 2
  · subst hm
    cases hl : decide (y = 0 ∨ leap y = true) with
    | true =>
      have hl' : y = 0 ∨ leap y = true := by simpa using hl
      have e1 : dm y 2 = 29 := by simp [dm, hl']
      rw [e1]
      clear e1 hl
      by_cases hy : y = 0
      · subst hy
        clear hl'
        go_enter Tryz.func272, Tryz.ntmps272
        go_wp2
        go_ret
        exact ⟨rfl, (Below.refl _ w).alloc (Nat.le_refl _) _⟩
      · have hle := hl'.resolve_left hy
        have hne : (y == 0) = false := by simpa using hy
        have HL := hd hle
        clear hl' hle
        go_enter Tryz.func272, Tryz.ntmps272
        go_wp2_with fail
        refine (rleap_calls y _).mono ?_
        rintro e w' ⟨rfl, rfl⟩
        rw [HL.o]
        go_wp2
        go_ret
        exact ⟨rfl, (Below.refl _ w).alloc (Nat.le_refl _) _⟩
    | false =>
      have hl' : ¬ (y = 0 ∨ leap y = true) := by simpa using hl
      have e1 : dm y 2 = 28 := by unfold dm; rw [if_neg (by omega), if_pos rfl, if_neg hl']
      rw [e1]
      have hne : (y == 0) = false := by simpa using fun h => hl' (.inl h)
      have HL := hd (show leap y = false by simpa using fun h => hl' (.inr h))
      clear e1 hl hl'
      go_enter Tryz.func272, Tryz.ntmps272
      go_wp2_with fail
      refine (rleap_calls y _).mono ?_
      rintro e w' ⟨rfl, rfl⟩
      rw [HL.o]
      go_wp2
      go_ret
      exact ⟨rfl, (Below.refl _ w).alloc (Nat.le_refl _) _⟩
  · have hc : m = 1 ∨ m = 3 ∨ m = 4 ∨ m = 5 ∨ m = 6 ∨ m = 7 ∨ m = 8 ∨ m = 9 ∨ m = 10 ∨ m = 11 ∨ m = 12 := by omega
    clear hm
    rcases hc with rfl | rfl | rfl | rfl | rfl | rfl | rfl | rfl | rfl | rfl | rfl
    all_goals
      simp only [dm]
      go_enter Tryz.func272, Tryz.ntmps272
      go_wp2
      go_ret
      exact ⟨rfl, (Below.refl _ w).alloc (Nat.le_refl _) _⟩

end Go.Proofs.YtfacfdjapjhpeaaGreatDoor
