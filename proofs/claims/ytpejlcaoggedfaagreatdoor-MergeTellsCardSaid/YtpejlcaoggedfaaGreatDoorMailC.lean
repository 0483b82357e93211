/-
  A text without blanks that say nothing, on both sides.
-/
import Derived.Test.YtpejlcaoggedfaaGreatDoorMailS
import Derived.Test.YtpejlcaoggedfaaGreatDoorMailF
import Derived.Test.YtpejlcaoggedfaaGreatDoorLayMail
import Derived.Test.YtpejlcaoggedfaaGreatDoorRowLaw
set_option linter.unusedVariables false
set_option linter.unusedSimpArgs false
namespace Go.Proofs.YtpejlcaoggedfaaGreatDoor
open Go.RowKit

/-- The tables that the library reads. -/
def Tbl (w : World) : Prop := Lib.Utf8Tabs 0 1 w ∧ ∃ m, w.cell? ⟨2, 0, none⟩ = some (.int .i64 m)
theorem lt_of_cell {w : World} {a : Addr} {v : Value} (h : w.cell? a = some v) : a.block < w.heap.size := by
  rcases Nat.lt_or_ge a.block w.heap.size with h' | h'
  · exact h'
  · simp [World.cell?, Array.getElem?_eq_none h'] at h
theorem Tbl.below {w w' : World} (h : Tbl w) (hb : Below w.heap.size w w') : Tbl w' :=
  ⟨Utf8Tabs_below h.1 hb, let ⟨m, hm⟩ := h.2; ⟨m, (hb.cell (lt_of_cell hm)).trans hm⟩⟩
theorem valid_calls (s : ByteArray) (hs : s.size ≤ 9223372036854775807) (w : World) (ht : Tbl w) : Calls Tryz.prog 79 #[.string s] w fun e w' => e = .returned (.bool (Lib.validD s.data.toList)) ∧ Below w.heap.size w w' :=
  Any.utf8_ValidString lays196 s w hs ht.1
theorem retTE {a b : ByteArray} {x y : Int} (h : a = b) (k : x = y) : Ending.returned (.tuple #[.string a, .int .i64 x]) = .returned (.tuple #[.string b, .int .i64 y]) := by rw [h, k]
theorem u8Info : (Tryz.prog.info? 5).map (fun i => (i.zero, i.size, i.bytes)) = some (some (.int .u8 0), 1, 1) := by kernel_rfl

theorem cells_at {w : World} {g : Nat} {t : TypeId} {cs : Array Value} {l : List Value} (hb : Blk w g t cs) (hl : cs.toList = l) : ∀ j u, l[j]? = some u → w.cell? ((⟨g, 0, none⟩ : Addr).add j) = some u := by
  intro j u hu
  rw [Addr.add_lit, Nat.zero_add, hb.cell, ← hu, ← hl]
  simp

def enc8 (l : List UInt8) : List Value := l.map fun c => .int .u8 c.toNat
theorem enc8_get (l : List UInt8) (j : Nat) (h : j < l.length) : (enc8 l)[j]? = some (.int .u8 (bt l j)) := by
  rw [bt_list l j h]; simp [enc8, h]
theorem enc8_snoc (l : List UInt8) (c : UInt8) : enc8 (l ++ [c]) = enc8 l ++ [.int .u8 c.toNat] := by simp [enc8]
theorem enc8_len (l : List UInt8) : (enc8 l).length = l.length := by simp [enc8]

theorem scanF_fuel : ∀ (n m : Nat) (l : List UInt8), l.length ≤ n → l.length ≤ m → scanF n l = scanF m l
  | 0, m, l, h, _ => by
    have : l = [] := List.eq_nil_of_length_eq_zero (by omega)
    subst this
    cases m <;> simp [scanF]
  | n + 1, 0, l, _, h => by
    have : l = [] := List.eq_nil_of_length_eq_zero (by omega)
    subst this
    simp [scanF]
  | n + 1, m + 1, l, h, k => by
    rw [scanF, scanF]
    by_cases hl : l = []
    · rw [if_pos hl, if_pos hl]
    · rw [if_neg hl, if_neg hl]
      by_cases hb : sgn l = 0 ∨ okC (bt l 0) = false
      · rw [if_pos hb, if_pos hb]
      · rw [if_neg hb, if_neg hb]
        exact scanF_fuel n m _ (by rw [List.length_drop]; omega) (by rw [List.length_drop]; omega)
def scanB (l : List UInt8) : Bool := scanF l.length l
theorem scanB_clean (l : List UInt8) : scanB l = cleanB l := scan_valid l
theorem scanB_step (l : List UInt8) (h : l ≠ []) : scanB l = if sgn l = 0 ∨ okC (bt l 0) = false then false else scanB (l.drop (sgn l)) := by
  unfold scanB
  cases l with
  | nil => exact absurd rfl h
  | cons b t =>
    show scanF (t.length + 1) (b :: t) = _
    rw [scanF, if_neg h]
    by_cases hb : sgn (b :: t) = 0 ∨ okC (bt (b :: t) 0) = false
    · rw [if_pos hb, if_pos hb]
    · rw [if_neg hb, if_neg hb]
      exact scanF_fuel _ _ _ (by rw [List.length_drop, List.length_cons]; omega) (Nat.le_refl _)
theorem cleanB_no (l : List UInt8) (h : cleanB l = false) : cleanT l = [] ∧ cleanE l = 1 := by simp [cleanT, cleanE, h]
theorem cleanB_0 (l : List UInt8) (h : cleanB l = true) (k : sqz l = []) : cleanT l = [] ∧ cleanE l = 14 := by simp [cleanT, cleanE, h, k]
theorem cleanB_64 (l : List UInt8) (h : cleanB l = true) (k : 64 < (sqz l).length) : cleanT l = [] ∧ cleanE l = 2 := by
  have : sqz l ≠ [] := fun e => by rw [e] at k; simp at k
  simp [cleanT, cleanE, h, k, this]
theorem cleanB_ok (l : List UInt8) (h : cleanB l = true) (k : (sqz l).length ≤ 64) (k0 : 0 < (sqz l).length) : cleanT l = sqz l ∧ cleanE l = 0 := by
  have : sqz l ≠ [] := fun e => by rw [e] at k0; simp at k0
  simp [cleanT, cleanE, h, this, show ¬ 64 < (sqz l).length by omega]
theorem okB_all (s : ByteArray) (h : ∀ j, j < s.size → okC (bt s.data.toList j) = true) : s.data.toList.all okB = true := by
  rw [List.all_eq_true]
  intro c hc
  obtain ⟨i, hi, e⟩ := mem_bt hc
  have := h i (by simpa using hi)
  rw [e] at this
  exact this
theorem okB_bad (s : ByteArray) (k : Nat) (hk : k < s.size) (h : okC s[k].toNat = false) : s.data.toList.all okB = false := by
  rw [List.all_eq_false]
  have hl : k < s.data.toList.length := by simpa using hk
  refine ⟨s.data.toList[k], List.getElem_mem hl, ?_⟩
  have e := bt_list _ k hl
  rw [bt_self s k hk] at e
  unfold okB
  rw [← e, h]
  exact Bool.false_ne_true
theorem last_of {O : List UInt8} {m : Nat} (h : O.length = m + 1) : O.getLast? = some 32 ↔ bt O m = 32 := by
  have hm : m < O.length := by omega
  rw [List.getLast?_eq_getElem?, h, Nat.add_sub_cancel, bt_list O m hm, List.getElem?_eq_getElem hm]
  constructor
  · intro e; injection e with e; rw [e]; rfl
  · intro e; rw [show O[m] = 32 from UInt8.toNat_inj.1 e]
theorem trimE_yes {O : List UInt8} {m : Nat} (h : O.length = m + 1) (k : bt O m = 32) : trimE O = O.take m := by
  rw [trimE, if_pos ((last_of h).2 k), List.dropLast_eq_take, h, Nat.add_sub_cancel]
theorem trimE_no {O : List UInt8} {m : Nat} (h : O.length = m + 1) (k : ¬ bt O m = 32) : trimE O = O := by
  rw [trimE, if_neg (fun e => k ((last_of h).1 e))]
theorem sq_skip0 (O : List UInt8) (c : UInt8) (hc : c.toNat = 32) (h : O.length = 0) : sq O c = O := by
  rw [sq, if_pos ⟨UInt8.toNat_inj.1 hc, .inl (List.eq_nil_of_length_eq_zero h)⟩]
theorem sq_skip {O : List UInt8} {m : Nat} (c : UInt8) (hc : c.toNat = 32) (h : O.length = m + 1) (k : bt O m = 32) : sq O c = O := by
  rw [sq, if_pos ⟨UInt8.toNat_inj.1 hc, .inr ((last_of h).2 k)⟩]
theorem sq_put {O : List UInt8} {m : Nat} (c : UInt8) (h : O.length = m + 1) (k : ¬ bt O m = 32) : sq O c = O ++ [c] := by
  rw [sq, if_neg]
  rintro ⟨_, e | e⟩
  · rw [e] at h; cases h
  · exact k ((last_of h).1 e)
theorem sq_other (O : List UInt8) (c : UInt8) (hc : ¬ c.toNat = 32) : sq O c = O ++ [c] := by
  rw [sq, if_neg]
  rintro ⟨e, _⟩
  rw [e] at hc
  exact hc rfl


set_option maxRecDepth 100000 in
set_option maxHeartbeats 4000000 in
theorem clean_calls (s : ByteArray) (hs : s.size ≤ 1000000) (w : World) (ht : Tbl w) : Calls Tryz.prog 55 #[.string s] w fun e w' => e = .returned (.tuple #[.string (bs (cleanT s.data.toList)), .int .i64 (cleanE s.data.toList)]) ∧ Below w.heap.size w w' := by
  have HL := hd (show s.data.toList.length = s.size by simp)
  obtain ⟨T, hT⟩ : ∃ T, cleanT s.data.toList = T := ⟨_, rfl⟩
  obtain ⟨E, hE⟩ : ∃ E, cleanE s.data.toList = E := ⟨_, rfl⟩
  rw [hT, hE]
  have HR := hd (⟨hT.symm, hE.symm⟩ : T = cleanT s.data.toList ∧ E = cleanE s.data.toList)
  clear hT hE
  obtain ⟨i0, hi, hz0, hz1, hz2⟩ := info_parts u8Info
  have HT := hd ht
  clear ht
  go_enter Tryz.func55, Tryz.ntmps55
  go_wp2_with fail
  refine (valid_calls s (by omega) w HT.o).mono ?_
  rintro e w1 ⟨rfl, hb1⟩
  have HB1 := hd hb1
  cases hv : Lib.validD s.data.toList with
  | false =>
    have HZ := hd (cleanB_no s.data.toList (by simp [cleanB, hv]))
    clear hv
    go_wp2
    go_ret2
    exact ⟨retTE (by rw [HR.o.1, HZ.o.1]; rfl) (by rw [HR.o.2, HZ.o.2]), hb1⟩
  | true =>
    have HV := hd hv
    clear hv
    go_wp2
    go_loop [4, 13] (fun _ i => ∃ k : Nat, i = .int .i64 k ∧ k ≤ s.size ∧ Hd (∀ j, j < k → okC (bt s.data.toList j) = true)) (fun _ i => s.size - (intOf i).toNat)
    case atStart => exact ⟨0, rfl, Nat.zero_le _, fun j hj => absurd hj (Nat.not_lt_zero _)⟩
    case round =>
      obtain ⟨k, rfl, hk, hh⟩ := hrel
      by_cases hlt : k < s.size
      · have hki : (0 : Int) ≤ (k : Int) := by omega
        by_cases hc : 32 ≤ s[k].toNat ∧ s[k].toNat ≠ 127
        · have HN : Hd (∀ j, j < k + 1 → okC (bt s.data.toList j) = true) := fun j hj => by
            by_cases e : j = k
            · subst e; rw [bt_self s _ hlt]; simp [okC, hc]
            · exact hh.o j (by omega)
          obtain ⟨hc1, hc2⟩ := hc
          have n127 : ((s[k].toNat : Int) == 127) = false := by simp; omega
          clear hc2
          go_wp2
          go_round
          case rel => exact ⟨k + 1, by go_num, by omega, HN⟩
          case measure => simp [intOf]; omega
        · have HZ := hd (cleanB_no s.data.toList (by
            have := okB_bad s k hlt (by simp [okC]; omega)
            simp [cleanB, this]))
          by_cases hc1 : s[k].toNat < 32
          · clear hc
            go_wp2
            go_ret2
            exact ⟨retTE (by rw [HR.o.1, HZ.o.1]; rfl) (by rw [HR.o.2, HZ.o.2]), hb1⟩
          · have n127 : ((s[k].toNat : Int) == 127) = true := by simp; omega
            clear hc
            go_wp2
            go_ret2
            exact ⟨retTE (by rw [HR.o.1, HZ.o.1]; rfl) (by rw [HR.o.2, HZ.o.2]), hb1⟩
      · have hke : k = s.size := by omega
        subst hke
        have HCL := hd (show cleanB s.data.toList = true by simp [cleanB, HV.o, okB_all s hh.o])
        clear hb1
        go_wp2
        clear hh
        obtain ⟨wo, rfl⟩ : ∃ wo : World, wo = w1 := ⟨_, rfl⟩
        go_loopw [5, 6, 29] (fun out _ i wr => ∃ (k : Nat) (A : Option Addr) (c m : Nat) (O : List UInt8), i = .int .i64 k ∧ k ≤ s.size ∧ out = .slice A m c ∧ m ≤ k ∧ Hd ((s.data.toList.take k).foldl sq [] = O) ∧ Hd (O.length = m) ∧ Row wr (From w.heap.size) 5 1 A m c (enc8 O) ∧ Below w.heap.size w wr) (fun _ _ i _ => s.size - (intOf i).toNat)
        case atStart => exact ⟨0, none, 0, 0, [], rfl, Nat.zero_le _, rfl, Nat.le_refl _, rfl, rfl, Row.nil _ _ _ _, HB1.o⟩
        case round =>
          obtain ⟨k, A, c, m, O, rfl, hk, rfl, hm, HO, HM, hr, hbe⟩ := hrel
          have hsz := hbe.size
          have hki : (0 : Int) ≤ (k : Int) := by omega
          by_cases hlt : k < s.size
          · by_cases h32 : s[k].toNat = 32
            · have n32 : ((s[k].toNat : Int) == 32) = true := by simp; omega
              have H32 := hd h32
              clear h32
              by_cases hm0 : m = 0
              · have HM0 := hd hm0
                obtain rfl := hm0
                go_wp2_with fail
                go_roundw
                case rel => exact ⟨k + 1, A, c, 0, O, by go_num, by omega, rfl, by omega, hd (by rw [fold_take s k hlt, HO.o]; exact sq_skip0 O _ H32.o HM.o), HM, hr, hbe⟩
                case measure => simp [intOf]; omega
              · obtain ⟨m', hm'⟩ : ∃ m', m = m' + 1 := ⟨m - 1, by omega⟩
                have n0 : ((m : Int) == 0) = false := by simp; omega
                obtain ⟨g, hA, _, hg, hmc, hcm, hcell, _⟩ := hr.at_ (by omega)
                unfold maxLen at hcm
                have hlast := hcell m' _ (enc8_get O m' (by rw [HM.o]; omega))
                have e1 : (m : Int) - 1 = (m' : Int) := by omega
                have HM' := hd hm'
                have hm1 : m' < m := by omega
                have hm2 : m ≤ 1000000 := by omega
                clear hm' hcell hm0
                subst hA
                by_cases hl : bt O m' = 32
                · have HLL := hd hl
                  rw [hl] at hlast
                  clear hl
                  go_wp2_with fail
                  go_roundw
                  case rel => exact ⟨k + 1, some ⟨g, 0, none⟩, c, m, O, by go_num, by omega, rfl, by omega, hd (by rw [fold_take s k hlt, HO.o]; exact sq_skip _ H32.o (HM.o.trans HM'.o) HLL.o), HM, hr, hbe⟩
                  case measure => simp [intOf]; omega
                · have nl : ((bt O m' : Int) == 32) = false := by simp; omega
                  have HLL := hd hl
                  clear hl
                  go_wp2_with (at_builtin; go_loud (refine wpList_append_row rfl _ _ 70 rfl (Of (some ⟨g, 0, none⟩)) 5 i0 (.int .u8 0) 1 1 Tryz.underlying70 hi hz0 hz1 hz2 rfl (some ⟨g, 0, none⟩) m c (enc8 O) rfl (hr.own_.alloc _) ⟨_, 0, none⟩ 1 1 [.int .u8 (s[k].toNat : Int)] rfl rfl (cells_at (Blk.new_ _ _ (by simp) _ _) rfl) (by simp [Value.oneCell']) (by omega) (by unfold maxLen; omega) (by omega) ?_; intro A2 c2 w2 hown2 hchg2))
                  go_roundw
                  case rel =>
                    refine ⟨k + 1, A2, c2, m + 1, O ++ [s[k]], by go_num, by omega, rfl, by omega, hd (by rw [fold_take s k hlt, HO.o]; exact sq_put _ (HM.o.trans HM'.o) HLL.o), hd (by rw [List.length_append, HM.o]; rfl), ?_, ?_⟩
                    · rw [enc8_snoc]
                      refine hown2.mono fun q hq => ?_
                      rcases hq with hq | hq
                      · exact hr.of_sub q hq
                      · simp at hq; show w.heap.size ≤ q; omega
                    · exact hbe.trans ((((Chg.refl (From w.heap.size) wr).alloc _).trans hchg2 (fun q hq => .inl (hr.of_sub q hq))).below (fun _ h => h) hsz)
                  case measure => simp [intOf]; omega
            · have n32 : ((s[k].toNat : Int) == 32) = false := by simp; omega
              have H32 := hd h32
              clear h32
              go_wp2_with (at_builtin; go_loud (refine wpList_append_row rfl _ _ 70 rfl (Of A) 5 i0 (.int .u8 0) 1 1 Tryz.underlying70 hi hz0 hz1 hz2 rfl A m c (enc8 O) rfl (hr.own_.alloc _) ⟨_, 0, none⟩ 1 1 [.int .u8 (s[k].toNat : Int)] rfl rfl (cells_at (Blk.new_ _ _ (by simp) _ _) rfl) (by simp [Value.oneCell']) (by omega) (by unfold maxLen; omega) (by omega) ?_; intro A2 c2 w2 hown2 hchg2))
              go_roundw
              case rel =>
                refine ⟨k + 1, A2, c2, m + 1, O ++ [s[k]], by go_num, by omega, rfl, by omega, hd (by rw [fold_take s k hlt, HO.o]; exact sq_other O _ H32.o), hd (by rw [List.length_append, HM.o]; rfl), ?_, ?_⟩
                · rw [enc8_snoc]
                  refine hown2.mono fun q hq => ?_
                  rcases hq with hq | hq
                  · exact hr.of_sub q hq
                  · simp at hq; show w.heap.size ≤ q; omega
                · exact hbe.trans ((((Chg.refl (From w.heap.size) wr).alloc _).trans hchg2 (fun q hq => .inl (hr.of_sub q hq))).below (fun _ h => h) hsz)
              case measure => simp [intOf]; omega
          · have hke : k = s.size := by omega
            subst hke
            clear hk
            have hfold : s.data.toList.take s.size = s.data.toList := List.take_of_length_le (by rw [HL.o]; exact Nat.le_refl _)
            rw [hfold] at HO
            clear hfold
            by_cases hm0 : m = 0
            · have HZ := hd (cleanB_0 _ HCL.o (by
                have : O = [] := List.eq_nil_of_length_eq_zero (HM.o.trans hm0)
                unfold sqz
                rw [HO.o, this]; rfl))
              have HM0 := hd hm0
              obtain rfl := hm0
              go_wp2
              go_ret2
              exact ⟨retTE (by rw [HR.o.1, HZ.o.1]; rfl) (by rw [HR.o.2, HZ.o.2]), hbe⟩
            · obtain ⟨m', rfl⟩ : ∃ m', m = m' + 1 := ⟨m - 1, by omega⟩
              clear hm0
              obtain ⟨g, rfl, _, hg, hmc, hcm, hcell, _⟩ := hr.at_ (by omega)
              unfold maxLen at hcm
              have hlast := hcell m' _ (enc8_get O m' (by rw [HM.o]; omega))
              have e1 : ((m' + 1 : Nat) : Int) - 1 = (m' : Int) := by omega
              by_cases h32 : bt O m' = 32
              · have H32 := hd h32
                rw [h32] at hlast
                clear h32
                have hfin : sqz s.data.toList = O.take m' := by unfold sqz; rw [HO.o]; exact trimE_yes HM.o H32.o
                have hlen : (O.take m').length = m' := by rw [List.length_take, HM.o]; omega
                have HFN := hd hfin
                have HLN := hd hlen
                clear hfin
                have hv := run_convert_bytes_back (P := Tryz.prog) wr 70 9 5 ⟨g, 0, none⟩ c (O.take m') Tryz.underlying70 Tryz.underlying5 Tryz.underlying9 (fun j hj => by
                  have hjO : j < O.length := by rw [HLN.o] at hj; rw [HM.o]; omega
                  have := hcell j _ (enc8_get O j hjO)
                  rw [bt_list O j hjO] at this
                  have hp : (⟨g, 0, none⟩ : Addr).add j = ⟨g, j, none⟩ := by unfold Addr.add; split <;> simp_all
                  rw [hp]
                  simpa using this)
                rw [hlen] at hv
                clear hlen
                by_cases q0 : m' = 0
                · have HZ := hd (cleanB_0 _ HCL.o (by rw [HFN.o]; exact List.eq_nil_of_length_eq_zero (HLN.o.trans q0)))
                  subst q0
                  clear hv
                  go_wp2
                  go_ret2
                  exact ⟨retTE (by rw [HR.o.1, HZ.o.1]; rfl) (by rw [HR.o.2, HZ.o.2]), hbe⟩
                · have n0 : ((m' : Int) == 0) = false := by simp; omega
                  have q0p : 1 ≤ m' := by omega
                  clear q0
                  by_cases q1 : 64 < m'
                  · clear hv
                    have HZ := hd (cleanB_64 _ HCL.o (by rw [HFN.o, HLN.o]; omega))
                    go_wp2
                    go_ret2
                    exact ⟨retTE (by rw [HR.o.1, HZ.o.1]; rfl) (by rw [HR.o.2, HZ.o.2]), hbe⟩
                  · have HZ := hd (cleanB_ok _ HCL.o (by rw [HFN.o, HLN.o]; omega) (by rw [HFN.o, HLN.o]; omega))
                    go_wp2
                    go_ret2
                    exact ⟨retTE (by rw [HR.o.1, HZ.o.1, HFN.o]; rfl) (by rw [HR.o.2, HZ.o.2]), hbe⟩
              · have n32 : ((bt O m' : Int) == 32) = false := by simp; omega
                have H32 := hd h32
                clear h32
                have hfin : sqz s.data.toList = O := by unfold sqz; rw [HO.o]; exact trimE_no HM.o H32.o
                have hlen : (O).length = m' + 1 := HM.o
                have HFN := hd hfin
                have HLN := hd hlen
                clear hfin
                have hv := run_convert_bytes_back (P := Tryz.prog) wr 70 9 5 ⟨g, 0, none⟩ c (O) Tryz.underlying70 Tryz.underlying5 Tryz.underlying9 (fun j hj => by
                  have hjO : j < O.length := by rw [HLN.o] at hj; rw [HM.o]; omega
                  have := hcell j _ (enc8_get O j hjO)
                  rw [bt_list O j hjO] at this
                  have hp : (⟨g, 0, none⟩ : Addr).add j = ⟨g, j, none⟩ := by unfold Addr.add; split <;> simp_all
                  rw [hp]
                  simpa using this)
                rw [hlen] at hv
                clear hlen
                by_cases q1 : 64 < m' + 1
                · clear hv
                  have HZ := hd (cleanB_64 _ HCL.o (by rw [HFN.o, HLN.o]; omega))
                  go_wp2
                  go_ret2
                  exact ⟨retTE (by rw [HR.o.1, HZ.o.1]; rfl) (by rw [HR.o.2, HZ.o.2]), hbe⟩
                · have HZ := hd (cleanB_ok _ HCL.o (by rw [HFN.o, HLN.o]; omega) (by rw [HFN.o, HLN.o]; omega))
                  go_wp2
                  go_ret2
                  exact ⟨retTE (by rw [HR.o.1, HZ.o.1, HFN.o]; rfl) (by rw [HR.o.2, HZ.o.2]), hbe⟩

end Go.Proofs.YtpejlcaoggedfaaGreatDoor
