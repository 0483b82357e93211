/-
  pack.Reader: number, Num, Text, Err, Left.
-/
import Derived.Test.YtogjokofmfpmgaaGreatDoorGAL
import Derived.BigQuiet
import Derived.Deep.QuietTactic
import Derived.Laws.BitsLemmas
import Derived.WalkLawsBesides
import Derived.Test.YtogjokofmfpmgaaGreatDoorGAH
set_option linter.unusedVariables false
set_option linter.unusedSimpArgs false
namespace Go.Proofs.YtogjokofmfpmgaaGreatDoor
open Go.RowKit

theorem orU (a x : Int) (h0 : 0 ≤ a) (h1 : a < 2 ^ 56) (h2 : 0 ≤ x) (h3 : x < 256) : bits .or .u64 (a * 256) x = a * 256 + x := by
  obtain ⟨a, rfl⟩ := Int.eq_ofNat_of_zero_le h0
  obtain ⟨x, rfl⟩ := Int.eq_ofNat_of_zero_le h2
  have key : (BitVec.ofInt 64 ((a : Int) * 256) ||| BitVec.ofInt 64 (x : Int)).toNat = a * 256 + x := by
    rw [BitVec.toNat_or, BitVec.toNat_ofInt, BitVec.toNat_ofInt]
    rw [show (((a : Int) * 256) % ((2 ^ 64 : Nat) : Int)).toNat = a * 256 by omega, show ((x : Int) % ((2 ^ 64 : Nat) : Int)).toNat = x by omega]
    have := Nat.two_pow_add_eq_or_of_lt (i := 8) (b := x) (by omega) a
    rw [show a * 256 = 2 ^ 8 * a by omega, ← this]
  show IntKind.u64.wrap ((BitVec.ofInt 64 ((a : Int) * 256) ||| BitVec.ofInt 64 (x : Int)).toNat : Nat) = _
  rw [key]
  show (((a * 256 + x : Nat) : Int)) % (18446744073709551616 : Int) = _
  omega

/-- What 'number' tells of the place at. -/
inductive NumR (l : List UInt8) (k : Nat) (e : Ending) : Prop
  | no (x : Int) : x = 14 ∨ x = 1 → numAt (l.drop k) = none → e = .returned (.tuple #[.int .i64 0, .int .i64 0, .int .i64 x]) → NumR l k e
  | yes (v : Int) (q : Nat) : numAt (l.drop k) = some (v, l.drop q) → k < q → q ≤ l.length → e = .returned (.tuple #[.int .i64 v, .int .i64 q, .int .i64 0]) → NumR l k e

theorem drop_at {l : List UInt8} {k : Nat} (h : k < l.length) : l.drop k = l[k] :: l.drop (k + 1) := List.drop_eq_getElem_cons h
theorem num_nil {l : List UInt8} {k : Nat} (h : l.length ≤ k) : numAt (l.drop k) = none := by rw [List.drop_of_length_le h]; rfl
theorem num_one {l : List UInt8} {k : Nat} (h : k < l.length) (h2 : l[k].toNat ≤ 247) : numAt (l.drop k) = some ((l[k].toNat : Int), l.drop (k + 1)) := by
  rw [drop_at h]
  unfold numAt
  simp only
  rw [if_pos h2]
theorem num_short {l : List UInt8} {k : Nat} (h : k < l.length) (h2 : 247 < l[k].toNat) (h3 : l.length - k - 1 < l[k].toNat - 247) : numAt (l.drop k) = none := by
  rw [drop_at h]
  unfold numAt
  simp only
  rw [if_neg (by omega), if_pos (by rw [List.length_drop]; omega)]
theorem num_long {l : List UInt8} {k : Nat} (h : k < l.length) (h2 : 247 < l[k].toNat) (h3 : ¬ l.length - k - 1 < l[k].toNat - 247) :
    numAt (l.drop k) = if (l.drop (k + 1)).headD 0 = 0 ∨ val ((l.drop (k + 1)).take (l[k].toNat - 247)) ≤ 247 ∨ 2 ^ 63 ≤ val ((l.drop (k + 1)).take (l[k].toNat - 247)) then none
      else some ((val ((l.drop (k + 1)).take (l[k].toNat - 247)) : Int), l.drop (k + 1 + (l[k].toNat - 247))) := by
  rw [drop_at h]
  unfold numAt
  simp only
  rw [if_neg (by omega), if_neg (by rw [List.length_drop]; omega)]
  split
  · rfl
  · rw [List.drop_drop]

set_option maxRecDepth 100000 in
set_option maxHeartbeats 4000000 in
theorem pnumber_calls (w : World) (g : Nat) (A : Option Addr) (n c : Nat) (l : List UInt8) (k k0 : Nat) (e0 : Int) (hb : Blk w g 113 #[.slice A n c, .int .i64 k0, .int .i64 e0]) (hr : Rds w A n 1 (u8E l)) (hnc : n ≤ c) (hn : n = l.length) (hs : n ≤ 1000000) (hk : k ≤ n) :
    Calls Tryz.prog 84 #[.pointer (some ⟨g, 0, none⟩), .int .i64 k] w fun e w' => NumR l k e ∧ w = w' := by
  have b0 := hb.at_ 0 rfl
  have HN := hd hn
  by_cases h1 : n ≤ k
  · have HV := hd (num_nil (l := l) (k := k) (by rw [← hn]; exact h1))
    clear hr hn hb
    go_enter Tryz.func84, Tryz.ntmps84
    go_wp2
    go_ret3
    exact ⟨.no 14 (.inl rfl) HV.o rfl, rfl⟩
  have hkn : k < n := by omega
  have hkl : k < l.length := by omega
  obtain ⟨g1, o1, rfl, hg1, hc⟩ := hr.at_ (by omega)
  have c0 : w.cell? ⟨g1, o1 + k, none⟩ = some (.int .u8 l[k].toNat) := hc k _ (u8E_at l k hkl)
  have hf := l[k].toNat_lt
  by_cases h2 : l[k].toNat ≤ 247
  · have HV := hd (num_one hkl h2)
    obtain ⟨f, hfe⟩ : ∃ f, l[k].toNat = f := ⟨_, rfl⟩
    rw [hfe] at HV c0 h2
    have h2i : decide ((f : Int) ≤ 247) = true := by simp; omega
    clear hr hn hb hc hfe hf
    go_enter Tryz.func84, Tryz.ntmps84
    go_wp2
    go_ret3
    exact ⟨.yes f (k + 1) HV.o (by omega) (by rw [← HN.o]; omega) rfl, rfl⟩
  by_cases h3 : n - k - 1 < l[k].toNat - 247
  · have HV := hd (num_short hkl (by omega) (by rw [← hn]; exact h3))
    obtain ⟨f, hfe⟩ : ∃ f, l[k].toNat = f := ⟨_, rfl⟩
    rw [hfe] at c0 h2 h3 hf
    have h2i : decide ((f : Int) ≤ 247) = false := by simp; omega
    have h3i : decide ((n : Int) - k - 1 < (f : Int) - 247) = true := by simp; omega
    clear hr hn hb hc hfe
    go_enter Tryz.func84, Tryz.ntmps84
    go_wp2
    go_ret3
    exact ⟨.no 14 (.inl rfl) HV.o rfl, rfl⟩
  have HV := hd (num_long hkl (by omega) (by rw [← hn]; exact h3))
  have hc1 : w.cell? ⟨g1, o1 + (k + 1), none⟩ = some (.int .u8 ((l.drop (k + 1)).headD 0).toNat) := by
    have hk1 : k + 1 < l.length := by omega
    rw [drop_at hk1]
    exact hc (k + 1) _ (u8E_at l (k + 1) hk1)
  obtain ⟨f, hfe⟩ : ∃ f, l[k].toNat = f := ⟨_, rfl⟩
  rw [hfe] at HV c0 h2 h3 hf
  have h2i : decide ((f : Int) ≤ 247) = false := by simp; omega
  have h3i : decide ((n : Int) - k - 1 < (f : Int) - 247) = false := by simp; omega
  obtain ⟨m, rfl⟩ : ∃ m, f = m + 247 := ⟨f - 247, by omega⟩
  rw [Nat.add_sub_cancel] at HV h3
  have hm8 : m ≤ 8 := by omega
  have HC := hd (show ∀ j, j < m → ∃ x : UInt8, val ((l.drop (k + 1)).take (j + 1)) = val ((l.drop (k + 1)).take j) * 256 + x.toNat ∧ w.cell? ⟨g1, o1 + (k + 1) + j, none⟩ = some (.int .u8 x.toNat) from fun j hj => by
    have hj1 : k + 1 + j < l.length := by omega
    have hj2 : j < (l.drop (k + 1)).length := by rw [List.length_drop]; omega
    refine ⟨l[k + 1 + j], ?_, ?_⟩
    · rw [val_take hj2, List.getElem_drop]
    · rw [Nat.add_assoc]
      exact hc (k + 1 + j) _ (u8E_at l (k + 1 + j) hj1))
  have HVL := hd (show ∀ j, j ≤ m → val ((l.drop (k + 1)).take j) < 256 ^ j from fun j hj => val_lt (by rw [List.length_take, List.length_drop]; omega))
  obtain ⟨L, hL⟩ : ∃ L, l.drop (k + 1) = L := ⟨_, rfl⟩
  rw [hL] at HC HVL HV hc1
  obtain ⟨hd0, hhd⟩ : ∃ x, L.headD 0 = x := ⟨_, rfl⟩
  rw [hhd] at HV hc1
  have hmi : ((m + 247 : Nat) : Int) - 247 = (m : Int) := by omega
  clear hr hn hb hc hfe hL hhd hkl
  go_enter Tryz.func84, Tryz.ntmps84
  go_wp2_with fail
  go_loop [56, 11, 9] (fun i _ u => ∃ (j : Nat) (x : Int), i = .int .i64 j ∧ j ≤ m ∧ u = .int .u64 x ∧ Hd (x = (val (L.take j) : Int))) (fun i _ _ => m - (intOf i).toNat)
  case atStart => exact ⟨0, 0, rfl, by omega, rfl, hd rfl⟩
  case round =>
    obtain ⟨j, x, rfl, hj, rfl, HX⟩ := hrel
    by_cases hlt : j < m
    · obtain ⟨y, HY, hcell⟩ := HC.o j hlt
      have hx0 : 0 ≤ x := by rw [HX.o]; omega
      have hx56 : x < 72057594037927936 := by
        have h1 := HVL.o j hj
        have h2 : 256 ^ j ≤ 256 ^ 7 := Nat.pow_le_pow_right (by decide) (by omega)
        rw [HX.o]
        have h3 : (256 : Nat) ^ 7 = 72057594037927936 := by decide
        omega
      have hy := y.toNat_lt
      have HOR := hd (orU x (y.toNat : Int) hx0 (by omega) (by omega) (by omega))
      have HYY := hd HY
      clear HY
      have hjm : j < k + 1 + m - (k + 1) := by omega
      have hji : (j : Int) < (m : Int) := by omega
      go_wp2
      go_round
      case rel => exact ⟨j + 1, x * 256 + (y.toNat : Int), by go_num, by omega, by first | rfl | (rw [HOR.o]), hd (by rw [HYY.o, HX.o]; push_cast; rfl)⟩
      case measure => simp [intOf]; omega
    · obtain rfl : j = m := by omega
      have hvl := HVL.o j (Nat.le_refl _)
      have hvl8 : val (L.take j) < 18446744073709551616 := by
        have h2 : 256 ^ j ≤ 256 ^ 8 := Nat.pow_le_pow_right (by decide) (by omega)
        have h3 : (256 : Nat) ^ 8 = 18446744073709551616 := by decide
        omega
      obtain ⟨v, hv⟩ : ∃ v, val (L.take j) = v := ⟨_, rfl⟩
      rw [hv] at HX HV
      obtain rfl : x = (v : Int) := HX.o
      have hz := hd0.toNat_lt
      have hki : (k : Int) < (n : Int) := by omega
      have hki2 : (k : Int) + 1 < (n : Int) := by omega
      have hki3 : k + 1 < n := by omega
      by_cases g1 : hd0.toNat = 0
      · have t1 : ((hd0.toNat : Int) == 0) = true := by simp; omega
        have HV2 := hd (HV.o.trans (if_pos (.inl (UInt8.toNat_inj.1 g1))))
        clear g1 hv HV hvl HVL
        go_wp2
        go_ret3
        exact ⟨.no 1 (.inr rfl) HV2.o rfl, rfl⟩
      · have t1 : ((hd0.toNat : Int) == 0) = false := by simp; omega
        have g1' : ¬ hd0 = 0 := fun e => g1 (by rw [e]; rfl)
        by_cases g2 : v ≤ 247
        · have t2 : decide ((v : Int) ≤ 247) = true := by simp; omega
          have HV2 := hd (HV.o.trans (if_pos (.inr (.inl g2))))
          clear g1 g1' hv HV hvl HVL
          go_wp2
          go_ret3
          exact ⟨.no 1 (.inr rfl) HV2.o rfl, rfl⟩
        · have t2 : decide ((v : Int) ≤ 247) = false := by simp; omega
          by_cases g3 : 9223372036854775808 ≤ v
          · have t3 : decide ((9223372036854775808 : Int) ≤ (v : Int)) = true := by simp; omega
            have HV2 := hd (HV.o.trans (if_pos (.inr (.inr (by have : (2 : Nat) ^ 63 = 9223372036854775808 := by decide
                                                               omega)))))
            clear g1 g1' hv HV hvl HVL
            go_wp2
            go_ret3
            exact ⟨.no 1 (.inr rfl) HV2.o rfl, rfl⟩
          · have t3 : decide ((9223372036854775808 : Int) ≤ (v : Int)) = false := by simp; omega
            have HV2 := hd (HV.o.trans (if_neg (fun h => by
              have : (2 : Nat) ^ 63 = 9223372036854775808 := by decide
              rcases h with h | h | h
              · exact g1' h
              · exact g2 h
              · omega)))
            clear g1 g1' hv HV hvl HVL
            go_wp2
            go_ret3
            exact ⟨.yes v (k + 1 + j) HV2.o (by omega) (by rw [← HN.o]; omega) rfl, rfl⟩

/-- The number that stands next, of what is left; and what is left behind it. -/
def numS (st : Option (List UInt8)) : Option (List UInt8) := (st.bind numAt).map Prod.snd
def textS (most : Nat) (st : Option (List UInt8)) : Option (List UInt8) := (st.bind (textAt most)).map Prod.snd
/-- A number that was read: right, if all went well. -/
def NumOk (st : Option (List UInt8)) (v : Int) : Prop := 0 ≤ v ∧ v ≤ 9223372036854775807 ∧ ∀ p, st.bind numAt = some p → v = p.1
def TextOk (most : Nat) (st : Option (List UInt8)) (s : ByteArray) : Prop := s.size ≤ most ∧ ∀ p, st.bind (textAt most) = some p → s.data.toList = p.1
theorem numAt_bd {l : List UInt8} {p : Int × List UInt8} (h : numAt l = some p) : 0 ≤ p.1 ∧ p.1 ≤ 9223372036854775807 := by
  obtain ⟨_, h2, h3⟩ := numAt_some (n := p.1) (r := p.2) h
  exact ⟨h2, by omega⟩
theorem chg_one (w : World) (g i : Nat) (u : Value) : Chg (One g) w (w.setCell ⟨g, i, none⟩ u) := (Chg.refl (One g) w).setCell (p := ⟨g, i, none⟩) (.inl rfl) u

set_option maxRecDepth 100000 in
set_option maxHeartbeats 4000000 in
theorem pNum_calls (w : World) (g : Nat) (l : List UInt8) (st : Option (List UInt8)) (h : PkR w g l st) (hl : l.length ≤ 1000000) :
    Calls Tryz.prog 56 #[.pointer (some ⟨g, 0, none⟩)] w fun e w' => ∃ v, e = .returned (.int .i64 v) ∧ NumOk st v ∧ PkR w' g l (numS st) ∧ Chg (One g) w w' := by
  obtain ⟨A, n, c, k, e, hb, hr, hn, hk, hst⟩ := h.o
  have HB := hd hb
  have HR := hd hr
  have HN := hd hn
  have hns : Hd (∀ a, A = some a → a.block ≠ g) := hd (fun a ha => hr.ne_blk hb (by decide) a ha)
  have b1 := hb.at_ 1 rfl
  have b2 := hb.at_ 2 rfl
  have f1 := hb.frozen 1
  have f2 := hb.frozen 2
  have hlt := hb.lt
  rcases hst with ⟨rfl, rfl⟩ | ⟨he, rfl⟩
  · have C1 := hd (pnumber_calls w g A n c l k k 0 hb hr.rds hr.cap.1 hn (by omega) hk)
    clear hb hr hn
    go_enter Tryz.func56, Tryz.ntmps56
    go_wp2_with fail
    refine C1.o.mono ?_
    rintro e w1 ⟨hh, rfl⟩
    rcases hh with ⟨x, hx, hv, rfl⟩ | ⟨v, q, hv, hq, hq2, rfl⟩
    · have HV := hd hv
      have hx0 : (x != 0) = true := by rcases hx with rfl | rfl <;> rfl
      have HX := hd hx
      clear hv hx
      go_wp2
      go_ret
      refine ⟨0, rfl, ⟨by decide, by decide, fun p hp => ?_⟩, ⟨⟨A, n, c, k, x, HB.o.set_ 2 _, HR.o.far (fun a ha => hns.o a ha) _, HN.o, hk, .inr ⟨?_, ?_⟩⟩⟩, chg_one _ _ _ _⟩
      · rw [Option.bind_some, HV.o] at hp; cases hp
      · rcases HX.o with rfl | rfl <;> decide
      · rw [numS, Option.bind_some, HV.o]; rfl
    · have HV := hd hv
      have hbd := numAt_bd hv
      rw [← HN.o] at hq2
      clear hv
      go_wp2
      go_ret
      refine ⟨v, rfl, ⟨hbd.1, hbd.2, fun p hp => ?_⟩, ⟨⟨A, n, c, q, 0, HB.o.set_ 1 _, HR.o.far (fun a ha => hns.o a ha) _, HN.o, hq2, .inl ⟨rfl, ?_⟩⟩⟩, chg_one _ _ _ _⟩
      · rw [Option.bind_some, HV.o] at hp; injection hp with hp; rw [← hp]
      · rw [numS, Option.bind_some, HV.o]; rfl
  · have he0 : (e != 0) = true := by simpa using he
    have HE := hd he
    clear hb hr hn he
    go_enter Tryz.func56, Tryz.ntmps56
    go_wp2
    go_ret
    exact ⟨0, rfl, ⟨by decide, by decide, fun p hp => by cases hp⟩, ⟨⟨A, n, c, k, e, HB.o, HR.o, HN.o, hk, .inr ⟨HE.o, rfl⟩⟩⟩, Chg.refl _ _⟩

theorem perr_calls (w : World) (g : Nat) (l : List UInt8) (st : Option (List UInt8)) (h : PkR w g l st) :
    Calls Tryz.prog 58 #[.pointer (some ⟨g, 0, none⟩)] w fun e w' => ∃ x : Int, e = .returned (.int .i64 x) ∧ (x = 0 ↔ st ≠ none) ∧ w = w' := by
  obtain ⟨A, n, c, k, e, hb, hr, hn, hk, hst⟩ := h.o
  have b2 := hb.at_ 2 rfl
  have HS := hd hst
  clear hb hr hn hst
  go_enter Tryz.func58, Tryz.ntmps58
  go_wp2
  go_ret
  refine ⟨e, rfl, ?_, rfl⟩
  rcases HS.o with ⟨rfl, rfl⟩ | ⟨h1, rfl⟩
  · simp
  · simp [h1]

theorem pleft_calls (w : World) (g : Nat) (l r : List UInt8) (h : PkR w g l (some r)) (hl : l.length ≤ 1000000) :
    Calls Tryz.prog 59 #[.pointer (some ⟨g, 0, none⟩)] w fun e w' => e = .returned (.int .i64 r.length) ∧ Below w.heap.size w w' := by
  obtain ⟨A, n, c, k, e, hb, hr, hn, hk, hst⟩ := h.o
  have b0 := hb.at_ 0 rfl
  have b1 := hb.at_ 1 rfl
  have HR : Hd ((n : Int) - (k : Int) = (r.length : Int)) := hd (by
    rcases hst with ⟨_, h1⟩ | ⟨_, h1⟩
    · injection h1 with h1
      rw [h1, List.length_drop]; omega
    · cases h1)
  have hn6 : n ≤ 1000000 := by omega
  clear hb hr hn hst
  go_enter Tryz.func59, Tryz.ntmps59
  go_wp2_with fail
  go_quiet (fail)
  go_wp2
  go_ret
  exact ⟨ret_int HR.o, bdrewN (Below.refl _ _) _⟩

end Go.Proofs.YtogjokofmfpmgaaGreatDoor
namespace Go.Proofs.YtogjokofmfpmgaaGreatDoor
open Go.RowKit

theorem textAt_none {most : Nat} {l : List UInt8} (h : numAt l = none) : textAt most l = none := by unfold textAt; rw [h]
theorem textAt_long {most : Nat} {l r : List UInt8} {v : Int} (h : numAt l = some (v, r)) (h2 : (r.length : Int) < v ∨ (most : Int) < v) : textAt most l = none := by
  unfold textAt; rw [h]; simp only; rw [if_pos h2]
theorem textAt_take {most : Nat} {l r : List UInt8} {v : Int} (h : numAt l = some (v, r)) (h2 : ¬ ((r.length : Int) < v ∨ (most : Int) < v)) : textAt most l = some (r.take v.toNat, r.drop v.toNat) := by
  unfold textAt; rw [h]; simp only; rw [if_neg h2]

set_option maxRecDepth 100000 in
set_option maxHeartbeats 4000000 in
theorem pText_calls (w : World) (g : Nat) (l : List UInt8) (st : Option (List UInt8)) (most : Nat) (h : PkR w g l st) (hl : l.length ≤ 1000000) (hm : most ≤ 1000000) :
    Calls Tryz.prog 83 #[.pointer (some ⟨g, 0, none⟩), .int .i64 most] w fun e w' => ∃ s, e = .returned (.string s) ∧ TextOk most st s ∧ PkR w' g l (textS most st) ∧ Chg (One g) w w' := by
  obtain ⟨A, n, c, k, e, hb, hr, hn, hk, hst⟩ := h.o
  have HB := hd hb
  have HR := hd hr
  have HN := hd hn
  have hns : Hd (∀ a, A = some a → a.block ≠ g) := hd (fun a ha => hr.ne_blk hb (by decide) a ha)
  have b0 := hb.at_ 0 rfl
  have b1 := hb.at_ 1 rfl
  have b2 := hb.at_ 2 rfl
  have f1 := hb.frozen 1
  have f2 := hb.frozen 2
  have hlt := hb.lt
  rcases hst with ⟨rfl, rfl⟩ | ⟨he, rfl⟩
  · have C1 := hd (pnumber_calls w g A n c l k k 0 hb hr.rds hr.cap.1 hn (by omega) hk)
    have hcap := hr.cap.1
    have hnl : n ≤ 1000000 := by omega
    clear hb hr hn
    go_enter Tryz.func83, Tryz.ntmps83
    go_wp2_with fail
    refine C1.o.mono ?_
    rintro e w1 ⟨hh, rfl⟩
    rcases hh with ⟨x, hx, hv, rfl⟩ | ⟨v, q, hv, hq, hq2, rfl⟩
    · have HV := hd (textAt_none (most := most) hv)
      have hx0 : (x != 0) = true := by rcases hx with rfl | rfl <;> rfl
      have HX := hd hx
      clear hv hx
      go_wp2
      go_ret
      refine ⟨⟨#[]⟩, rfl, ⟨Nat.zero_le _, fun p hp => ?_⟩, ⟨⟨A, n, c, k, x, HB.o.set_ 2 _, HR.o.far (fun a ha => hns.o a ha) _, HN.o, hk, .inr ⟨?_, ?_⟩⟩⟩, chg_one _ _ _ _⟩
      · rw [Option.bind_some, HV.o] at hp; cases hp
      · rcases HX.o with rfl | rfl <;> decide
      · rw [textS, Option.bind_some, HV.o]; rfl
    · have hbd := numAt_bd hv
      have hql : (l.drop q).length = n - q := by rw [List.length_drop, HN.o]
      rw [← HN.o] at hq2
      have hqi : (q : Int) ≤ (n : Int) := by omega
      by_cases h1 : (n : Int) - q < v
      · have HV := hd (textAt_long (most := most) hv (.inl (by rw [hql]; omega)))
        have h1i : decide ((n : Int) - q < v) = true := by simpa using h1
        clear hv hql hbd
        go_wp2
        go_ret
        refine ⟨⟨#[]⟩, rfl, ⟨Nat.zero_le _, fun p hp => ?_⟩, ⟨⟨A, n, c, k, 14, HB.o.set_ 2 _, HR.o.far (fun a ha => hns.o a ha) _, HN.o, hk, .inr ⟨by decide, ?_⟩⟩⟩, chg_one _ _ _ _⟩
        · rw [Option.bind_some, HV.o] at hp; cases hp
        · rw [textS, Option.bind_some, HV.o]; rfl
      · have h1i : decide ((n : Int) - q < v) = false := by simpa using h1
        by_cases h2 : (most : Int) < v
        · have HV := hd (textAt_long (most := most) hv (.inr h2))
          have h2i : decide ((most : Int) < v) = true := by simpa using h2
          clear hv hql hbd
          go_wp2
          go_ret
          refine ⟨⟨#[]⟩, rfl, ⟨Nat.zero_le _, fun p hp => ?_⟩, ⟨⟨A, n, c, k, 2, HB.o.set_ 2 _, HR.o.far (fun a ha => hns.o a ha) _, HN.o, hk, .inr ⟨by decide, ?_⟩⟩⟩, chg_one _ _ _ _⟩
          · rw [Option.bind_some, HV.o] at hp; cases hp
          · rw [textS, Option.bind_some, HV.o]; rfl
        · have h2i : decide ((most : Int) < v) = false := by simpa using h2
          have HV := hd (textAt_take (most := most) hv (fun h => h.elim (fun h => by rw [hql] at h; omega) h2))
          obtain ⟨m, rfl⟩ : ∃ m : Nat, v = m := ⟨v.toNat, by omega⟩
          have hmq : q + m ≤ n := by omega
          have hmm : m ≤ most := by omega
          have hmd : decide (most < m) = false := by simp; omega
          obtain ⟨t, ht⟩ : ∃ t, q + m = t := ⟨_, rfl⟩
          rw [ht] at hmq
          obtain ⟨g1, o1, hA, hg1, hcl⟩ := HR.o.rds.at_ (by omega : 0 < n)
          subst hA
          have hgg : g1 ≠ g := hns.o _ rfl
          obtain ⟨w2, hw2⟩ : ∃ w2, w2 = w.setCell ⟨g, 1, none⟩ (.int .i64 (t : Int)) := ⟨_, rfl⟩
          have hB2 : Blk w2 g 113 #[.slice (some ⟨g1, o1, none⟩) n c, .int .i64 (t : Int), .int .i64 0] := by rw [hw2]; exact HB.o.set_ 1 _
          have hR2 : Row w2 (Of (some ⟨g1, o1, none⟩)) 5 1 (some ⟨g1, o1, none⟩) n c (u8E l) := by rw [hw2]; exact HR.o.far (fun a ha => hns.o a ha) _
          have hCh := hd (show Chg (One g) w w2 by rw [hw2]; exact chg_one _ _ _ _)
          have HW2 := hd hw2
          have d0 := hB2.at_ 0 rfl
          have d1 := hB2.at_ 1 rfl
          have HB2 := hd hB2
          have HR2 := hd hR2
          have hcell := fun j (hj : q + j < n) => show w2.cell? ⟨g1, o1 + (q + j), none⟩ = _ from by
            obtain ⟨g3, o3, hA3, _, hc3⟩ := HR2.o.rds.at_ (by omega : 0 < n)
            injection hA3 with hA3
            injection hA3 with e1 e2
            subst e1 e2
            exact hc3 (q + j) _ (u8E_at l (q + j) (by rw [← HN.o]; exact hj))
          have hrd : ∀ B, (0 < m → B = some ⟨g1, o1 + q, none⟩) → Rds w2 B m 1 (u8E ((l.drop q).take m)) := fun B hB => ⟨by rw [u8E_len, List.length_take, hql]; omega, fun h0 => ⟨g1, o1 + q, hB h0, by have := hR2.lt rfl; exact this, fun j u hu => by
            have hj : j < ((l.drop q).take m).length := by
              have := (List.getElem?_eq_some_iff.1 hu).1
              rwa [u8E_len] at this
            have hj2 : j < m ∧ q + j < n := by rw [List.length_take, hql] at hj; omega
            rw [u8E_at _ j hj] at hu
            rw [Nat.add_assoc, hcell j hj2.2, ← hu, List.getElem_take, List.getElem_drop]⟩⟩
          have hcv := fun B (hB : 0 < m → B = some ⟨g1, o1 + q, none⟩) c' k' => conv_back (P := Tryz.prog) (w2.drewN k') 27 9 5 Tryz.underlying27 Tryz.underlying5 Tryz.underlying9 B m c' ((l.drop q).take m) (by rw [List.length_take, hql]; omega) ((hrd B hB).drewN k')
          have hfin : Hd (PkR w2 g l (textS most (some (l.drop k)))) := hd ⟨⟨some ⟨g1, o1, none⟩, n, c, t, 0, hB2, hR2, HN.o, hmq, .inl ⟨rfl, by rw [textS, Option.bind_some, HV.o, Int.toNat_natCast]; show some _ = _; rw [List.drop_drop, ht]⟩⟩⟩
          have hts : Hd (TextOk most (some (l.drop k)) (bs ((l.drop q).take m))) := hd ⟨by rw [bs_size, List.length_take, hql]; omega, fun p hp => by rw [Option.bind_some, HV.o] at hp; injection hp with hp; rw [← hp]; rfl⟩
          have hsum : (q : Int) + (m : Int) = (t : Int) := by omega
          have hqm : (q : Int) ≤ (t : Int) := by omega
          obtain ⟨b, hbb⟩ : ∃ b, bs ((l.drop q).take m) = b := ⟨_, rfl⟩
          rw [hbb] at hcv hts
          clear hv hql hcl hrd hcell hB2 hR2 hbb hw2
          have htq : t - q = m := by omega
          have htn : (t : Int) ≤ (n : Int) := by omega
          by_cases hcq : c = q
          · have hm0 : m = 0 := by omega
            subst hm0
            obtain rfl : q = t := by omega
            have hcv0 := hcv (some ⟨g1, o1, none⟩) (fun h => by omega)
            clear hcv ht htq hsum
            go_wp2_with fail
            rw [← HW2.o]
            go_quiet (fail)
            go_wp2
            go_ret
            exact ⟨b, rfl, hts.o, hfin.o.chg ((Chg.refl Non _).drewN nq) (fun _ h => h.elim), hCh.o.drewN nq⟩
          · have hcv0 := hcv (some ⟨g1, o1 + q, none⟩) (fun _ => rfl)
            clear hcv ht
            go_wp2_with fail
            rw [← HW2.o]
            go_quiet (fail)
            go_wp2
            go_ret
            exact ⟨b, rfl, hts.o, hfin.o.chg ((Chg.refl Non _).drewN nq) (fun _ h => h.elim), hCh.o.drewN nq⟩
  · have he0 : (e != 0) = true := by simpa using he
    have HE := hd he
    clear hb hr hn he
    go_enter Tryz.func83, Tryz.ntmps83
    go_wp2
    go_ret
    exact ⟨⟨#[]⟩, rfl, ⟨Nat.zero_le _, fun p hp => by cases hp⟩, ⟨⟨A, n, c, k, e, HB.o, HR.o, HN.o, hk, .inr ⟨HE.o, rfl⟩⟩⟩, Chg.refl _ _⟩

end Go.Proofs.YtogjokofmfpmgaaGreatDoor
namespace Go.Proofs.YtogjokofmfpmgaaGreatDoor
open Go.RowKit

def Two (a b : Nat) : Nat → Prop := fun k => k = a ∨ k = b
/-- A request's reader. -/
structure RdR (w : World) (x g : Nat) (l : List UInt8) (st : Option (List UInt8)) : Prop where
  o : ∃ (bad : Bool) (st' : Option (List UInt8)), Blk w x 89 #[.pointer (some ⟨g, 0, none⟩), .bool bad] ∧ PkR w g l st' ∧ ((bad = false ∧ st' = st) ∨ (bad = true ∧ st = none))
theorem RdR.lt {w : World} {x g : Nat} {l : List UInt8} {st : Option (List UInt8)} (h : RdR w x g l st) : x < w.heap.size ∧ g < w.heap.size := by
  obtain ⟨bad, st', hb, hp, _⟩ := h.o
  exact ⟨hb.lt, hp.lt⟩
theorem RdR.chg {w w' : World} {T : Nat → Prop} {x g : Nat} {l : List UInt8} {st : Option (List UInt8)} (h : RdR w x g l st) (hc : Chg T w w') (hT : ∀ k, T k → w.heap.size ≤ k ∨ ∃ t cs, Blk w k t cs ∧ 5 ≠ t ∧ 113 ≠ t ∧ 89 ≠ t) : RdR w' x g l st := by
  obtain ⟨bad, st', hb, hp, hs⟩ := h.o
  refine ⟨bad, st', hb.chg hc (fun hg => ?_), hp.chg hc (fun k hk => (hT k hk).imp id (fun ⟨t, cs, h1, h2, h3, _⟩ => ⟨t, cs, h1, h2, h3⟩)), hs⟩
  rcases hT _ hg with hg | ⟨t, cs, hx, _, _, hn⟩
  · have := hb.lt; omega
  · exact hb.ne_ hx hn rfl
theorem RdR.below {w w' : World} {x g : Nat} {l : List UInt8} {st : Option (List UInt8)} (h : RdR w x g l st) (hb : Below w.heap.size w w') : RdR w' x g l st :=
  h.chg (Chg.of_below Non hb) (fun _ h => h.elim)
theorem RdR.alloc {w : World} {x g : Nat} {l : List UInt8} {st : Option (List UInt8)} (h : RdR w x g l st) (o : Obj) : RdR (w.alloc o) x g l st := h.below ((Below.refl _ w).alloc (Nat.le_refl _) o)
theorem RdR.drewN {w : World} {x g : Nat} {l : List UInt8} {st : Option (List UInt8)} (h : RdR w x g l st) (n : Nat) : RdR (w.drewN n) x g l st := h.below (bdrewN (Below.refl _ w) n)
theorem RdR.far {w : World} {x g : Nat} {l : List UInt8} {st : Option (List UInt8)} (h : RdR w x g l st) {b i : Nat} {t : TypeId} {cs : Array Value} (hb : Blk w b t cs) (h1 : 5 ≠ t) (h2 : 113 ≠ t) (h3 : 89 ≠ t) (u : Value) : RdR (w.setCell ⟨b, i, none⟩ u) x g l st :=
  h.chg (T := One b) ((Chg.refl (One b) w).setCell (p := ⟨b, i, none⟩) (.inl rfl) u) (fun k hk => .inr ⟨t, cs, by rw [show k = b from hk]; exact hb, h1, h2, h3⟩)

def smallS (st : Option (List UInt8)) : Option (List UInt8) := (st.bind smallAt).map Prod.snd
def condS (st : Option (List UInt8)) : Option (List UInt8) := (st.bind condAt).map Prod.snd
def I64 (v : Int) : Prop := 0 ≤ v ∧ v ≤ 9223372036854775807
def SmallOk (st : Option (List UInt8)) (v : Int) : Prop := I64 v ∧ ∀ p, st.bind smallAt = some p → v = p.1
def CondOk (st : Option (List UInt8)) (ck cv : Int) : Prop := I64 ck ∧ I64 cv ∧ ∀ p, st.bind condAt = some p → (ck, cv) = p.1
theorem small_of {st : Option (List UInt8)} {v : Int} (h : NumOk st v) : SmallOk st v := by
  refine ⟨⟨h.1, h.2.1⟩, fun p hp => ?_⟩
  cases st with
  | none => cases hp
  | some l =>
    rw [Option.bind_some] at hp
    unfold smallAt at hp
    obtain ⟨q, hq, h2⟩ := Option.bind_eq_some_iff.1 hp
    split at h2
    · injection h2 with h2
      rw [← h2]; exact h.2.2 q (by rw [Option.bind_some, hq])
    · cases h2
theorem smallS_big {st : Option (List UInt8)} {v : Int} (h : NumOk st v) (hv : 2147483647 < v) : smallS st = none := by
  cases st with
  | none => rfl
  | some l =>
    unfold smallS
    rw [Option.bind_some]
    unfold smallAt
    cases hn : numAt l with
    | none => rfl
    | some q =>
      have := h.2.2 q (by rw [Option.bind_some, hn])
      rw [Option.bind_some, if_neg (by omega)]; rfl
theorem smallS_ok {st : Option (List UInt8)} {v : Int} (h : NumOk st v) (hv : ¬ 2147483647 < v) : smallS st = numS st := by
  cases st with
  | none => rfl
  | some l =>
    unfold smallS numS
    rw [Option.bind_some, Option.bind_some]
    unfold smallAt
    cases hn : numAt l with
    | none => rfl
    | some q =>
      have := h.2.2 q (by rw [Option.bind_some, hn])
      rw [Option.bind_some, if_pos (by omega)]
theorem cond_of {st : Option (List UInt8)} {k v : Int} (h1 : SmallOk st k) (h2 : NumOk (smallS st) v) : CondOk st k v ∧ condS st = numS (smallS st) := by
  cases st with
  | none => exact ⟨⟨h1.1, ⟨h2.1, h2.2.1⟩, fun p hp => by cases hp⟩, rfl⟩
  | some l =>
    have e1 : ∀ p, smallAt l = some p → k = p.1 := fun p hp => h1.2 p (by rw [Option.bind_some, hp])
    unfold smallS at h2
    rw [Option.bind_some] at h2
    unfold condS smallS numS
    rw [Option.bind_some, Option.bind_some]
    unfold CondOk
    rw [Option.bind_some]
    unfold condAt
    cases hs : smallAt l with
    | none => exact ⟨⟨h1.1, ⟨h2.1, h2.2.1⟩, fun p hp => by cases hp⟩, rfl⟩
    | some q =>
      rw [hs] at h2
      have e2 : ∀ p, numAt q.2 = some p → v = p.1 := fun p hp => h2.2.2 p (by rw [Option.map_some, Option.bind_some, hp])
      rw [Option.bind_some, Option.map_some, Option.bind_some]
      cases hn : numAt q.2 with
      | none => exact ⟨⟨h1.1, ⟨h2.1, h2.2.1⟩, fun p hp => by cases hp⟩, rfl⟩
      | some r =>
        refine ⟨⟨h1.1, ⟨h2.1, h2.2.1⟩, fun p hp => ?_⟩, rfl⟩
        rw [Option.bind_some] at hp
        injection hp with hp
        rw [← hp, e1 q hs, e2 r hn]

set_option maxHeartbeats 2000000 in
theorem rnum_calls (w : World) (x g : Nat) (l : List UInt8) (st : Option (List UInt8)) (h : RdR w x g l st) (hl : l.length ≤ 1000000) :
    Calls Tryz.prog 57 #[.pointer (some ⟨x, 0, none⟩)] w fun e w' => ∃ v, e = .returned (.int .i64 v) ∧ SmallOk st v ∧ RdR w' x g l (smallS st) ∧ Chg (Two x g) w w' := by
  obtain ⟨bad, st', hb, hp, hs⟩ := h.o
  have C1 := hd (pNum_calls w g l st' hp hl)
  have b0 := hb.at_ 0 rfl
  have HB := hd hb
  have HS := hd hs
  have hxg : Hd (x ≠ g) := hd (by obtain ⟨_, _, _, _, _, h2, _⟩ := hp.o; exact hb.ne_ h2 (by decide))
  have hlt := hb.lt
  clear hb hp hs
  go_enter Tryz.func57, Tryz.ntmps57
  go_wp2_with fail
  refine C1.o.mono ?_
  rintro e w1 ⟨v, rfl, hv, hp1, hc1⟩
  have hb1 := HB.o.chg hc1 hxg.o
  have c1 := hb1.at_ 1 rfl
  have g1 := hb1.frozen 1
  have hlt1 := hb1.lt
  have HB1 := hd hb1
  have HP1 := hd hp1
  have HC1 := hd (hc1.mono (T := Two x g) (fun k hk => .inr hk))
  have HV := hd hv
  have HP2 := hd (fun u => hp1.far (i := 1) hb1 (by decide) (by decide) u)
  have HC2 := hd (fun u => HC1.o.setCell (p := ⟨x, 1, none⟩) (.inl (.inl rfl)) u)
  clear hb1 hp1 hc1 hv
  have hfin : Hd (∀ b : Bool, (b = true ↔ (bad = true ∨ 2147483647 < v)) → ∃ v', Ending.returned (Value.int .i64 v) = .returned (.int .i64 v') ∧ SmallOk st v' ∧ RdR (w1.setCell ⟨x, 1, none⟩ (.bool b)) x g l (smallS st) ∧ Chg (Two x g) w (w1.setCell ⟨x, 1, none⟩ (.bool b))) := hd (fun b hbb => by
    have hsm : SmallOk st v := by
      rcases HS.o with ⟨_, rfl⟩ | ⟨_, rfl⟩
      · exact small_of HV.o
      · exact ⟨⟨HV.o.1, HV.o.2.1⟩, fun p hp => by cases hp⟩
    refine ⟨v, rfl, hsm, ⟨b, numS st', HB1.o.set_ 1 _, HP2.o _, ?_⟩, HC2.o _⟩
    cases b with
    | true =>
      refine .inr ⟨rfl, ?_⟩
      rcases HS.o with ⟨h1, rfl⟩ | ⟨_, rfl⟩
      · rcases hbb.1 rfl with h2 | h2
        · rw [h1] at h2; cases h2
        · exact smallS_big HV.o h2
      · rfl
    | false =>
      have hn : ¬ (bad = true ∨ 2147483647 < v) := fun h => by have := hbb.2 h; cases this
      rcases HS.o with ⟨h1, rfl⟩ | ⟨h1, _⟩
      · exact .inl ⟨rfl, (smallS_ok HV.o (fun h => hn (.inr h))).symm⟩
      · exact absurd (.inl h1) hn)
  clear HP2 HC2
  cases bad with
  | true =>
    go_wp2
    go_ret
    exact hfin.o true (by simp)
  | false =>
    by_cases hbig : 2147483647 < v
    · have hbi : decide ((2147483647 : Int) < v) = true := by simpa using hbig
      go_wp2
      go_ret
      exact hfin.o true (by simp [hbig])
    · have hbi : decide ((2147483647 : Int) < v) = false := by simpa using hbig
      go_wp2
      go_ret
      exact hfin.o false (by simp [hbig])

theorem rdtext_calls (w : World) (x g : Nat) (l : List UInt8) (st : Option (List UInt8)) (h : RdR w x g l st) (hl : l.length ≤ 1000000) :
    Calls Tryz.prog 53 #[.pointer (some ⟨x, 0, none⟩)] w fun e w' => ∃ s, e = .returned (.string s) ∧ TextOk 20000 st s ∧ RdR w' x g l (textS 20000 st) ∧ Chg (Two x g) w w' := by
  obtain ⟨bad, st', hb, hp, hs⟩ := h.o
  have C1 := hd (pText_calls w g l st' 20000 hp hl (by omega))
  have b0 := hb.at_ 0 rfl
  have HB := hd hb
  have HS := hd hs
  have hxg : Hd (x ≠ g) := hd (by obtain ⟨_, _, _, _, _, h2, _⟩ := hp.o; exact hb.ne_ h2 (by decide))
  have hlt := hb.lt
  clear hb hp hs
  go_enter Tryz.func53, Tryz.ntmps53
  go_wp2_with fail
  refine C1.o.mono ?_
  rintro e w1 ⟨s, rfl, hv, hp1, hc1⟩
  have HP1 := hd hp1
  have HC1 := hd hc1
  have HV := hd hv
  clear hp1 hc1 hv
  go_wp2
  go_ret
  refine ⟨s, rfl, ?_, ⟨bad, textS 20000 st', HB.o.chg HC1.o hxg.o, HP1.o, ?_⟩, HC1.o.mono (fun k hk => .inr hk)⟩
  · rcases HS.o with ⟨_, rfl⟩ | ⟨_, rfl⟩
    · exact HV.o
    · exact ⟨HV.o.1, fun p hp => by cases hp⟩
  · rcases HS.o with ⟨h1, rfl⟩ | ⟨h1, rfl⟩
    · exact .inl ⟨h1, rfl⟩
    · exact .inr ⟨h1, rfl⟩

set_option maxRecDepth 100000 in
set_option maxHeartbeats 2000000 in
theorem rcond_calls (w : World) (x g : Nat) (l : List UInt8) (st : Option (List UInt8)) (h : RdR w x g l st) (hl : l.length ≤ 1000000) :
    Calls Tryz.prog 54 #[.pointer (some ⟨x, 0, none⟩)] w fun e w' => ∃ ck cv : Int, e = .returned (.agg #[.int .i64 ck, .int .i64 cv]) ∧ CondOk st ck cv ∧ RdR w' x g l (condS st) ∧ Chg (Two x g) w w' := by
  obtain ⟨X, hX⟩ : ∃ X, X = w.alloc (.cells #[.int .i64 0, .int .i64 0] 23) := ⟨_, rfl⟩
  have HBX := hd (show Blk X w.heap.size 23 #[.int .i64 0, .int .i64 0] by rw [hX]; exact Blk.new _ _ _)
  have HCX := hd (show Chg (Two x g) w X by rw [hX]; exact (Chg.refl _ _).alloc _)
  have hRX : RdR X x g l st := by rw [hX]; exact h.alloc _
  have C1 := hd (rnum_calls X x g l st hRX hl)
  have hxl := h.lt
  have HX := hd hX
  clear h hX hRX
  go_enter Tryz.func54, Tryz.ntmps54
  go_wp2_with fail
  rw [← HX.o]
  refine C1.o.mono ?_
  rintro e w1 ⟨k, rfl, hk, hr1, hc1⟩
  have HR1 := hd hr1
  have HK := hd hk
  have HC1 := hd (HCX.o.trans hc1 (fun k hk => .inl hk))
  have hb1 := HBX.o.chg hc1 (fun h => by rcases h with h | h <;> omega)
  have HB1 := hd hb1
  obtain ⟨bad, st', hb, hp, hs⟩ := hr1.o
  have b0 := hb.at_ 0 rfl
  have C2 := hd (pNum_calls w1 g l st' hp hl)
  have HB := hd hb
  have HS := hd hs
  have hxg : Hd (x ≠ g) := hd (by obtain ⟨_, _, _, _, _, h2, _⟩ := hp.o; exact hb.ne_ h2 (by decide))
  have hlt := hb.lt
  clear hr1 hk hc1 hb hp hs hb1
  go_wp2_with fail
  refine C2.o.mono ?_
  rintro e w2 ⟨v, rfl, hv, hp2, hc2⟩
  have hb2 := HB1.o.chg hc2 (fun h => by have h : w.heap.size = g := h; omega)
  have q0 := hb2.at_ 0 rfl
  have q1 := hb2.at_ 1 rfl
  have z0 := hb2.frozen 0
  have z1 := hb2.frozen 1
  have hl2 := hb2.lt
  have HB2 := hd hb2
  have HP2 := hd hp2
  have HV := hd hv
  have HBx := hd (HB.o.chg hc2 hxg.o)
  have HC2 := hd (HC1.o.trans hc2 (fun k hk => .inl (.inr hk)))
  clear hb2 hp2 hc2 hv
  go_wp2
  (try simp only [Exit.inBlock, Exit.then])
  refine bodyPost_ret (results_cell_row rfl _ _ _ _ _ _ _ rfl ((HB2.o.set_ 0 _).set_ 1 _) rfl rfl rfl) rfl ?_
  have hsm : NumOk (smallS st) v := by
    rcases HS.o with ⟨_, h2⟩ | ⟨_, h2⟩
    · rw [← h2]; exact HV.o
    · rw [h2]; exact ⟨HV.o.1, HV.o.2.1, fun p hp => by cases hp⟩
  obtain ⟨o1, o2⟩ := cond_of HK.o hsm
  have hR2 : RdR w2 x g l (condS st) := ⟨bad, numS st', HBx.o, HP2.o, by
    rw [o2]
    rcases HS.o with ⟨h1, h2⟩ | ⟨h1, h2⟩
    · exact .inl ⟨h1, by rw [h2]⟩
    · exact .inr ⟨h1, by rw [h2]; rfl⟩⟩
  refine ⟨k, v, rfl, o1, ?_, ?_⟩
  · exact (hR2.far HB2.o (by decide) (by decide) (by decide) _).far (HB2.o.set_ 0 _) (by decide) (by decide) (by decide) _
  · exact (HC2.o.setCell (.inr (Nat.le_refl _)) _).setCell (.inr (Nat.le_refl _)) _

end Go.Proofs.YtogjokofmfpmgaaGreatDoor
namespace Go.Proofs.YtogjokofmfpmgaaGreatDoor
open Go.RowKit

theorem opInfo : (Tryz.prog.info? 43).map (fun i => (i.zero, i.size, i.bytes)) = some (some (.agg #[.bool false, .string ⟨#[]⟩, .string ⟨#[]⟩, .int .i64 0, .int .i64 0]), 5, 56) := by kernel_rfl

theorem RdR.bad {w : World} {x g : Nat} {l : List UInt8} {st st' : Option (List UInt8)} {bad : Bool} (hb : Blk w x 89 #[.pointer (some ⟨g, 0, none⟩), .bool bad]) (hp : PkR w g l st') (hs : (bad = false ∧ st' = st) ∨ (bad = true ∧ st = none)) (b : Bool) (P : Prop) [Decidable P] (h : b = true ↔ bad = true ∨ P) :
    RdR (w.setCell ⟨x, 1, none⟩ (.bool b)) x g l (if P then none else st) := by
  refine ⟨b, st', hb.set_ 1 _, hp.far hb (by decide) (by decide) _, ?_⟩
  cases b with
  | true =>
    refine .inr ⟨rfl, ?_⟩
    by_cases hP : P
    · rw [if_pos hP]
    · rw [if_neg hP]
      rcases hs with ⟨h1, rfl⟩ | ⟨_, h2⟩
      · rcases h.1 rfl with h2 | h2
        · rw [h1] at h2; cases h2
        · exact absurd h2 hP
      · exact h2
  | false =>
    have hn : ¬ (bad = true ∨ P) := fun k => by have := h.2 k; cases this
    rw [if_neg (fun k => hn (.inr k))]
    rcases hs with ⟨_, rfl⟩ | ⟨h1, _⟩
    · exact .inl ⟨rfl, rfl⟩
    · exact absurd (.inl h1) hn

def opS (st : Option (List UInt8)) : Option (List UInt8) := (st.bind opAt).map Prod.snd
def opOk (st : Option (List UInt8)) (o : OpV) : Prop := ∀ p, st.bind opAt = some p → o = p.1
theorem op_bad {st : Option (List UInt8)} {v : Int} (h : SmallOk st v) (hv : 1 < v) : opS st = none ∧ ∀ o, opOk st o := by
  cases st with
  | none => exact ⟨rfl, fun o p hp => by cases hp⟩
  | some l =>
    have e1 : ∀ p, smallAt l = some p → v = p.1 := fun p hp => h.2 p (by rw [Option.bind_some, hp])
    have hn : opAt l = none := by
      unfold opAt
      cases hm : numAt l with
      | none => rfl
      | some m =>
        rw [Option.bind_some]
        by_cases h1 : 1 < m.1
        · rw [if_pos h1]
        · exfalso
          have := e1 m (by unfold smallAt; rw [hm, Option.bind_some, if_pos (by omega)])
          omega
    unfold opS opOk
    rw [Option.bind_some, hn]
    exact ⟨rfl, fun o p hp => by cases hp⟩
theorem small_num {l : List UInt8} {m : Int × List UInt8} (h : numAt l = some m) (h1 : ¬ 1 < m.1) : smallAt l = some m := by
  unfold smallAt; rw [h, Option.bind_some, if_pos (by omega)]
theorem small_none {l : List UInt8} (h : numAt l = none) : smallAt l = none := by unfold smallAt; rw [h]; rfl
theorem op_of {st : Option (List UInt8)} {v : Int} {s t : ByteArray} {ck cv : Int} (h : SmallOk st v) (hv : ¬ 1 < v) (hs : TextOk 20000 (smallS st) s)
    (ht : v ≠ 1 → TextOk 20000 (textS 20000 (smallS st)) t) (hc : CondOk (if v = 1 then textS 20000 (smallS st) else textS 20000 (textS 20000 (smallS st))) ck cv) :
    opS st = condS (if v = 1 then textS 20000 (smallS st) else textS 20000 (textS 20000 (smallS st))) ∧ opOk st ⟨decide (v = 1), s.data.toList, if v = 1 then [] else t.data.toList, ck, cv⟩ := by
  cases st with
  | none =>
    refine ⟨?_, fun p hp => by cases hp⟩
    split <;> rfl
  | some l =>
    have e1 : ∀ p, smallAt l = some p → v = p.1 := fun p hp => h.2 p (by rw [Option.bind_some, hp])
    unfold opS opOk
    rw [Option.bind_some]
    cases hm : numAt l with
    | none =>
      have k1 : smallS (some l) = none := by unfold smallS; rw [Option.bind_some, small_none hm]; rfl
      have k2 : opAt l = none := by unfold opAt; rw [hm]; rfl
      rw [k1, k2]
      refine ⟨?_, fun p hp => by cases hp⟩
      split <;> rfl
    | some m =>
      by_cases h1 : 1 < m.1
      · have k2 : opAt l = none := by unfold opAt; rw [hm, Option.bind_some, if_pos h1]
        have k1 : smallS (some l) = none := by
          unfold smallS
          rw [Option.bind_some]
          cases hq : smallAt l with
          | none => rfl
          | some p =>
            exfalso
            have hv2 := e1 p hq
            unfold smallAt at hq
            rw [hm, Option.bind_some] at hq
            split at hq
            · injection hq with hq; rw [hq] at h1; omega
            · cases hq
        rw [k1, k2]
        refine ⟨?_, fun p hp => by cases hp⟩
        split <;> rfl
      · have hsm := small_num hm h1
        have hvm : v = m.1 := e1 m hsm
        have k1 : smallS (some l) = some m.2 := by unfold smallS; rw [Option.bind_some, hsm]; rfl
        rw [k1] at hs ht hc ⊢
        have k2 : opAt l = (textAt 20000 m.2).bind fun u => if m.1 = 1 then (condAt u.2).bind fun c => some (⟨true, u.1, [], c.1.1, c.1.2⟩, c.2) else (textAt 20000 u.2).bind fun t => (condAt t.2).bind fun c => some (⟨false, u.1, t.1, c.1.1, c.1.2⟩, c.2) := by
          unfold opAt; rw [hm, Option.bind_some, if_neg h1]
        rw [k2, ← hvm]
        unfold TextOk at hs
        rw [Option.bind_some] at hs
        have es := hs.2
        have k3 : textS 20000 (some m.2) = (textAt 20000 m.2).map Prod.snd := by unfold textS; rw [Option.bind_some]
        rw [k3] at ht hc ⊢
        cases hu : textAt 20000 m.2 with
        | none => exact ⟨by split <;> rfl, fun p hp => by cases hp⟩
        | some u =>
          rw [hu] at ht hc
          have es := es u hu
          rw [Option.bind_some, Option.map_some]
          rw [Option.map_some] at ht hc
          by_cases hv1 : v = 1
          · rw [if_pos hv1, if_pos hv1, if_pos hv1, decide_eq_true hv1]
            rw [if_pos hv1] at hc
            have ec := hc.2.2
            rw [Option.bind_some] at ec
            have k4 : condS (some u.2) = (condAt u.2).map Prod.snd := by unfold condS; rw [Option.bind_some]
            rw [k4]
            cases hcc : condAt u.2 with
            | none => exact ⟨rfl, fun p hp => by cases hp⟩
            | some c =>
              have ec := ec c hcc
              refine ⟨rfl, fun p hp => ?_⟩
              rw [Option.bind_some] at hp
              injection hp with hp
              rw [← hp, es, ← ec]
          · rw [if_neg hv1, if_neg hv1, if_neg hv1, decide_eq_false hv1]
            rw [if_neg hv1] at hc
            have ht := ht hv1
            unfold TextOk at ht
            rw [Option.bind_some] at ht
            have et := ht.2
            have k5 : textS 20000 (some u.2) = (textAt 20000 u.2).map Prod.snd := by unfold textS; rw [Option.bind_some]
            rw [k5] at hc ⊢
            cases htt : textAt 20000 u.2 with
            | none => exact ⟨rfl, fun p hp => by cases hp⟩
            | some t' =>
              rw [htt] at hc
              have et := et t' htt
              rw [Option.map_some] at hc
              have ec := hc.2.2
              rw [Option.bind_some] at ec
              rw [Option.bind_some, Option.map_some]
              have k4 : condS (some t'.2) = (condAt t'.2).map Prod.snd := by unfold condS; rw [Option.bind_some]
              rw [k4]
              cases hcc : condAt t'.2 with
              | none => exact ⟨rfl, fun p hp => by cases hp⟩
              | some c =>
                have ec := ec c hcc
                refine ⟨rfl, fun p hp => ?_⟩
                rw [Option.bind_some] at hp
                injection hp with hp
                rw [← hp, es, et, ← ec]

/-- What is left behind the number of writes; behind k of them. -/
def ops0 (st : Option (List UInt8)) (v : Int) : Option (List UInt8) := if 16 < v then none else smallS st
def opsK (k : Nat) (st0 : Option (List UInt8)) : Option (List UInt8) := (st0.bind (opsN k)).map Prod.snd
def opsOk (k : Nat) (st0 : Option (List UInt8)) (L : List OpV) : Prop := ∀ p, st0.bind (opsN k) = some p → L = p.1
theorem opsK_0 (st0 : Option (List UInt8)) : opsK 0 st0 = st0 ∧ opsOk 0 st0 [] := by
  cases st0 with
  | none => exact ⟨rfl, fun p hp => by cases hp⟩
  | some l =>
    unfold opsK opsOk
    rw [Option.bind_some, opsN]
    exact ⟨rfl, fun p hp => by injection hp with hp; rw [← hp]⟩
theorem opsK_succ {k : Nat} {st0 : Option (List UInt8)} {L : List OpV} {o : OpV} (h : opsOk k st0 L) (ho : opOk (opsK k st0) o) : opsK (k + 1) st0 = opS (opsK k st0) ∧ opsOk (k + 1) st0 (L ++ [o]) := by
  cases st0 with
  | none => exact ⟨rfl, fun p hp => by cases hp⟩
  | some l =>
    unfold opsK opsOk at *
    simp only [Option.bind_some] at *
    rw [opsN]
    cases hn : opsN k l with
    | none => exact ⟨rfl, fun p hp => by cases hp⟩
    | some q =>
      have e := h q hn
      rw [hn, Option.map_some] at ho
      unfold opOk at ho
      rw [Option.bind_some] at ho
      rw [Option.bind_some, Option.map_some]
      unfold opS
      rw [Option.bind_some]
      cases hq : opAt q.2 with
      | none => exact ⟨rfl, fun p hp => by cases hp⟩
      | some r =>
        refine ⟨rfl, fun p hp => ?_⟩
        rw [Option.bind_some] at hp
        injection hp with hp
        rw [← hp, e, ho r hq]
theorem opsN_none {l : List UInt8} {k : Nat} (h : opsN k l = none) : ∀ m, k ≤ m → opsN m l = none
  | 0, hm => by obtain rfl : k = 0 := by omega
                exact h
  | m + 1, hm => by
    by_cases e : k = m + 1
    · rw [← e]; exact h
    · rw [opsN, opsN_none h m (by omega)]; rfl
theorem opsK_none {st0 : Option (List UInt8)} {k m : Nat} (h : opsK k st0 = none) (hm : k ≤ m) : opsK m st0 = none := by
  cases st0 with
  | none => rfl
  | some l =>
    unfold opsK at *
    rw [Option.bind_some] at *
    have : opsN k l = none := by
      cases hk : opsN k l with
      | none => rfl
      | some p => rw [hk] at h; cases h
    rw [opsN_none this m hm]; rfl
def opsS (st : Option (List UInt8)) : Option (List UInt8) := (st.bind opsAt).map Prod.snd
def OpsOk (st : Option (List UInt8)) (L : List OpV) : Prop := ∀ p, st.bind opsAt = some p → L = p.1
theorem ops_of {st : Option (List UInt8)} {v : Int} (h : SmallOk st v) : opsS st = opsK v.toNat (ops0 st v) ∧ ∀ L, opsOk v.toNat (ops0 st v) L → OpsOk st L := by
  cases st with
  | none =>
    refine ⟨?_, fun L _ p hp => by cases hp⟩
    unfold ops0
    split <;> rfl
  | some l =>
    have e1 : ∀ p, smallAt l = some p → v = p.1 := fun p hp => h.2 p (by rw [Option.bind_some, hp])
    unfold opsS OpsOk ops0 smallS opsAt
    rw [Option.bind_some, Option.bind_some]
    cases hm : smallAt l with
    | none =>
      refine ⟨?_, fun L _ p hp => by cases hp⟩
      split <;> rfl
    | some m =>
      have e := e1 m hm
      rw [Option.bind_some, ← e]
      by_cases h16 : 16 < v
      · rw [if_pos h16, if_pos h16]; exact ⟨rfl, fun L _ p hp => by cases hp⟩
      · rw [if_neg h16, if_neg h16]
        unfold opsK opsOk
        rw [Option.map_some, Option.bind_some]
        exact ⟨rfl, fun L hL p hp => hL p hp⟩
theorem ops_dead {st : Option (List UInt8)} {v : Int} (h : SmallOk st v) {k : Nat} (hk : k ≤ v.toNat) (hd : opsK k (ops0 st v) = none) : opsS st = none ∧ ∀ L, OpsOk st L := by
  obtain ⟨h1, h2⟩ := ops_of h
  have h3 := opsK_none hd hk
  refine ⟨h1.trans h3, fun L => h2 L (fun p hp => ?_)⟩
  unfold opsK at h3
  rw [hp] at h3
  cases h3

end Go.Proofs.YtogjokofmfpmgaaGreatDoor
