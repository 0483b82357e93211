/-
  The reference's days: what a text answers, on both sides.
-/
import Derived.Test.YtfacfdjapjhpeaaGreatDoorGAQ
import Derived.Test.YtfacfdjapjhpeaaGreatDoorGAP
import Derived.Deep.RegionHeld3
import Derived.Test.YtfacfdjapjhpeaaGreatDoorGAN
import Derived.Deep.CutRange
import Derived.Test.YtfacfdjapjhpeaaGreatDoorGAA
import Derived.Test.YtfacfdjapjhpeaaGreatDoorGAB
import Derived.Sort.Grow
import Derived.Shelf.SlSortCmp.NoneTotal
import Derived.Shelf.SlLaysF0
import Derived.Test.YtfacfdjapjhpeaaGreatDoorProg
import Derived.Laws.StructEq
set_option linter.unusedVariables false
set_option linter.unusedSimpArgs false
namespace Go.Proofs.YtfacfdjapjhpeaaGreatDoor
open Go.RowKit Go.Sort

theorem ofn (a : Nat) (h : a < 10) : (UInt8.ofNat (48 + a)).toNat = 48 + a := by
  rw [UInt8.toNat_ofNat']; omega
theorem stp_y (len i a : Nat) (ha : a < 10) (t : Int × Int × Int) (hi : (i : Int) < len - 6) : stp len i (48 + a) t = (10 * t.1 + a, t.2.1, t.2.2) := by
  unfold stp; rw [if_neg (by omega), if_pos hi]; simp; omega
theorem stp_m (len i a : Nat) (ha : a < 10) (t : Int × Int × Int) (h0 : ¬ (i : Int) < len - 6) (hi : (i : Int) = len - 5 ∨ (i : Int) = len - 4) : stp len i (48 + a) t = (t.1, 10 * t.2.1 + a, t.2.2) := by
  unfold stp; rw [if_neg (by omega), if_neg h0, if_pos hi]; simp; omega
theorem stp_d (len i a : Nat) (ha : a < 10) (t : Int × Int × Int) (hi : (len : Int) - 2 ≤ i) : stp len i (48 + a) t = (t.1, t.2.1, 10 * t.2.2 + a) := by
  unfold stp; rw [if_neg (by omega), if_neg (by omega), if_neg (by omega), if_pos hi]; simp; omega
theorem stp_n (len i : Nat) (t : Int × Int × Int) : stp len i 45 t = t := by
  unfold stp; rw [if_pos (by omega)]

theorem pd_0 (m d : Int) (h : mayB 0 m d = true) : pdF 7 0 (showL 0 m d) (0, 0, 0) = (0, m, d) := by
  obtain ⟨c1, c2, c3, c4, c5, c6⟩ := (mayB_iff 0 m d).1 h
  have := dm_bd 0 m
  rw [shown_0 m d h]
  simp only [sh2, List.cons_append, List.nil_append, pdF]
  rw [show (45 : UInt8).toNat = 45 from rfl, ofn _ (by omega), stp_d 7 _ _ (by omega) _ (by decide), ofn _ (by omega), stp_d 7 _ _ (by omega) _ (by decide), stp_n, ofn _ (by omega), stp_m 7 _ _ (by omega) _ (by decide) (by decide), ofn _ (by omega), stp_m 7 _ _ (by omega) _ (by decide) (by decide), stp_n, stp_n]
  simp only [Prod.mk.injEq]
  refine ⟨trivial, by omega, by omega⟩
theorem pd_y (y m d : Int) (hy : y ≠ 0) (h : mayB y m d = true) : pdF 10 0 (showL y m d) (0, 0, 0) = (y, m, d) := by
  obtain ⟨c1, c2, c3, c4, c5, c6⟩ := (mayB_iff y m d).1 h
  have := dm_bd y m
  rw [shown_y y m d hy h]
  simp only [sh2, sh4, List.cons_append, List.nil_append, pdF]
  rw [show (45 : UInt8).toNat = 45 from rfl, ofn _ (by omega), stp_d 10 _ _ (by omega) _ (by decide), ofn _ (by omega), stp_d 10 _ _ (by omega) _ (by decide), stp_n, ofn _ (by omega), stp_m 10 _ _ (by omega) _ (by decide) (by decide), ofn _ (by omega), stp_m 10 _ _ (by omega) _ (by decide) (by decide), stp_n, ofn _ (by omega), stp_y 10 _ _ (by omega) _ (by decide), ofn _ (by omega), stp_y 10 _ _ (by omega) _ (by decide), ofn _ (by omega), stp_y 10 _ _ (by omega) _ (by decide), ofn _ (by omega), stp_y 10 _ _ (by omega) _ (by decide)]
  simp only [Prod.mk.injEq]
  omega

set_option maxRecDepth 100000 in
theorem rparse_else (s : ByteArray) (h5 : s.size ≤ 64) (h7 : ¬ s.size = 7) (h10 : ¬ s.size = 10) (w : World) : Calls Tryz.prog 218 #[.string s] w fun e w' => e = .returned (dateV 0 0 0 1) ∧ Below w.heap.size w w' := by
  have a1 : ((s.size : Int) != 10) = true := by simp; omega
  have a2 : ((s.size : Int) != 7) = true := by simp; omega
  have HC := hd (two_cells w _ 292 #[.int .i64 0, .int .i64 0, .int .i64 0] #[.int .i64 0, .int .i64 0, .int .i64 0] (Below.refl _ _))
  have HW := hd (two_below w _ (.cells #[.int .i64 0, .int .i64 0, .int .i64 0] 292) (.cells #[.int .i64 0, .int .i64 0, .int .i64 0] 292) (Below.refl _ _))
  go_enter Tryz.func218, Tryz.ntmps218
  go_wp2
  (try simp only [Exit.inBlock, Exit.then])
  refine bodyPost_ret (res_cell_tmp rfl _ _ w.heap.size 292 #[.int .i64 0, .int .i64 0, .int .i64 0] _ _ rfl HC.o.1 rfl rfl rfl) rfl ⟨rfl, HW.o⟩

/-- Both answer alike. -/
theorem parse_both (s : ByteArray) (hs : s.size ≤ 64) : ∃ y m d k : Int, ((k = 0 ∧ ∃ y m d, mayB y m d = true ∧ showL y m d = s.data.toList) ∨ (k = 1 ∧ ¬ ∃ y m d, mayB y m d = true ∧ showL y m d = s.data.toList)) ∧ (∀ W, Tab W → Calls Tryz.prog 228 #[.string s] W fun e w' => e = .returned (dateV y m d k) ∧ Below W.heap.size W w') ∧
    (∀ W, Calls Tryz.prog 218 #[.string s] W fun e w' => e = .returned (dateV y m d k) ∧ Below W.heap.size W w') := by
  by_cases hex : ∃ y m d, mayB y m d = true ∧ showL y m d = s.data.toList
  · obtain ⟨y, m, d, hm, hsh⟩ := hex
    refine ⟨y, m, d, 0, .inl ⟨rfl, y, m, d, hm, hsh⟩, fun W hW => ?_, fun W => ?_⟩
    · have := parse_shown y m d hm W hW
      rwa [bs_eq _ _ hsh] at this
    · have hz : s.size = (showL y m d).length := by rw [hsh]; simp
      by_cases hy : y = 0
      · subst hy
        have h7 : s.size = 7 := by rw [hz, shown_0 m d hm]; rfl
        refine (rparse_7 s h7 0 m d (by rw [← hsh]; exact pd_0 m d hm) W).mono ?_
        rintro e w' ⟨v, rfl, hv, hb⟩
        rcases hv with ⟨_, _, rfl⟩ | ⟨hn, _⟩
        · exact ⟨rfl, hb⟩
        · exact absurd ⟨hm, hsh⟩ hn
      · have h10 : s.size = 10 := by rw [hz, shown_y y m d hy hm]; rfl
        refine (rparse_10 s h10 y m d (by rw [← hsh]; exact pd_y y m d hy hm) W).mono ?_
        rintro e w' ⟨v, rfl, hv, hb⟩
        rcases hv with ⟨_, _, rfl⟩ | ⟨hn, _⟩
        · exact ⟨rfl, hb⟩
        · exact absurd ⟨hm, hsh⟩ hn
  · refine ⟨0, 0, 0, 1, .inr ⟨rfl, hex⟩, fun W hW => ?_, fun W => ?_⟩
    · obtain ⟨v, y, m, d, hv, hc⟩ := parse_fix s hs
      rcases hv with ⟨h1, h2, _⟩ | ⟨_, rfl⟩
      · exact absurd ⟨y, m, d, h1, h2⟩ hex
      · exact hc W hW
    · by_cases h7 : s.size = 7
      · refine (rparse_7 s h7 _ _ _ rfl W).mono ?_
        rintro e w' ⟨v, rfl, hv, hb⟩
        rcases hv with ⟨h1, h2, _⟩ | ⟨_, rfl⟩
        · exact absurd ⟨_, _, _, h1, h2⟩ hex
        · exact ⟨rfl, hb⟩
      · by_cases h10 : s.size = 10
        · refine (rparse_10 s h10 _ _ _ rfl W).mono ?_
          rintro e w' ⟨v, rfl, hv, hb⟩
          rcases hv with ⟨h1, h2, _⟩ | ⟨_, rfl⟩
          · exact absurd ⟨_, _, _, h1, h2⟩ hex
          · exact ⟨rfl, hb⟩
        · exact rparse_else s hs h7 h10 W

end Go.Proofs.YtfacfdjapjhpeaaGreatDoor
namespace Go.Proofs.YtfacfdjapjhpeaaGreatDoor
open Go.RowKit

/-- Both tables. -/
def Tbs (w : World) : Prop := Tbl w ∧ Tab w
theorem Tbs.below {w w' : World} (h : Tbs w) (hb : Below w.heap.size w w') : Tbs w' := ⟨h.1.below hb, h.2.below hb⟩
open Classical in
noncomputable def dayE (l : List UInt8) : Int := if DayT l then 0 else 1
theorem parse_day (l : List UInt8) (hl : l.length ≤ 64) : ∃ y m d : Int, (∀ W, Tab W → Calls Tryz.prog 228 #[.string (bs l)] W fun e w' => e = .returned (dateV y m d (dayE l)) ∧ Below W.heap.size W w') ∧
    (∀ W, Calls Tryz.prog 218 #[.string (bs l)] W fun e w' => e = .returned (dateV y m d (dayE l)) ∧ Below W.heap.size W w') := by
  obtain ⟨y, m, d, k, hk, h1, h2⟩ := parse_both (bs l) (by rw [bs_size]; exact hl)
  have e : k = dayE l := by
    unfold dayE DayT
    rcases hk with ⟨rfl, h⟩ | ⟨rfl, h⟩
    · rw [bs_data] at h; rw [if_pos h]
    · rw [bs_data] at h; rw [if_neg h]
  subst e
  exact ⟨y, m, d, h1, h2⟩
/-- What a value's cleaning answers, before the day. -/
noncomputable def preE (k : Int) (v : List UInt8) : Int := if k = 3 then telE v else if k = 4 then canE v else cleanE v
theorem valE_pre (k : Int) (v : List UInt8) : valE k v = if preE k v = 0 ∧ k = 5 then dayE (valT k v) else preE k v := by
  unfold valE preE valT dayE
  by_cases k3 : k = 3
  · rw [if_pos k3, if_pos k3, if_pos k3, if_neg (by omega)]
  · by_cases k4 : k = 4
    · rw [if_neg k3, if_neg k3, if_neg k3, if_pos k4, if_pos k4, if_pos k4, if_neg (by omega)]
    · rw [if_neg k3, if_neg k3, if_neg k3, if_neg k4, if_neg k4, if_neg k4]
      by_cases k5 : k = 5
      · by_cases e : cleanE v = 0
        · by_cases hD : DayT (cleanT v)
          · rw [if_neg (by simp [hD]), if_pos ⟨e, k5⟩, if_pos hD, e]
          · rw [if_pos ⟨e, k5, hD⟩, if_pos ⟨e, k5⟩, if_neg hD]
        · rw [if_neg (by simp [e]), if_neg (by simp [e])]
      · rw [if_neg (by simp [k5]), if_neg (by simp [k5])]
theorem kind_some {k : Int} (h : 1 ≤ k ∧ k ≤ 6) : ((bs (kindL k)).toList == []) = false := by
  have h1 : ¬ kindL k = [] := fun e => (kindL_ne k).1 e h
  rw [bs_toL]
  cases hk : kindL k with
  | nil => exact absurd hk h1
  | cons a t => rfl
theorem kind_none {k : Int} (h : ¬ (1 ≤ k ∧ k ≤ 6)) : kindL k = [] := (kindL_ne k).2 h
theorem fldC_res (f : Fld) : fldC f = resF ⟨f.k, f.l, valT f.k f.v⟩ (fldE f) := rfl
theorem fcanon_calls (f : Fld) (hs : f.v.length ≤ 1000000) (w : World) (ht : Tbs w) : Calls Tryz.prog 202 #[fldV f] w fun e w' => e = .returned (fldR (fldC f) (fldE f)) ∧ Below w.heap.size w w' := by
  obtain ⟨k, l, v⟩ := f
  have hz : (bs v).size ≤ 1000000 := by rw [bs_size]; exact hs
  have HT : ∀ W, Below w.heap.size w W → Tbs W := fun W h => ht.below h
  have L1 : ∀ W, Calls Tryz.prog 179 #[.int .i64 k, .int .i64 l] W fun e w' => e = .returned (.tuple #[.string (bs (labV k l)), .bool (decide (okL k l))]) ∧ W = w' := label_calls k l
  have L2 : ∀ W, Calls Tryz.prog 180 #[.int .i64 k] W fun e w' => e = .returned (.string (bs (kindL k))) ∧ W = w' := kind_calls k
  rw [fldC_res]
  by_cases hh : okKL k l
  · have hE : fldE ⟨k, l, v⟩ = valE k v := if_pos hh
    obtain ⟨hk, hl⟩ := (okKL_iff k l).1 hh
    rw [show decide (okL k l) = true by simp [hl]] at L1
    have hkd := kind_some hk
    by_cases h3 : k = 3
    · subst h3
      have hv : valE 3 v = telE v := rfl
      rw [hE, hv]
      exact fcanon_3 l (bs v) _ _ (telT v) (telE v) (telE v) rfl w L1 L2 hkd (fun W h => telcan_calls (bs v) hz W (HT W h).1)
    by_cases h4 : k = 4
    · subst h4
      have hv : valE 4 v = canE v := rfl
      rw [hE, hv]
      exact fcanon_4 l (bs v) _ _ (canT v) (canE v) (canE v) rfl w L1 L2 hkd (fun W h => canon_calls (bs v) hz W (HT W h).1)
    · have hl0 : l = 0 := by
        rcases hl with h | ⟨_, h | h⟩ | ⟨_, h⟩
        · exact h
        · exact absurd h h3
        · exact absurd h h4
        · exact absurd h h3
      subst hl0
      have hT : valT k v = cleanT v := by unfold valT; rw [if_neg h3, if_neg h4]
      have hP : preE k v = cleanE v := by unfold preE; rw [if_neg h3, if_neg h4]
      obtain ⟨y, m, d, hp, _⟩ := parse_day (cleanT v) (cleanT_len v)
      have hv := valE_pre k v
      rw [hT, hP] at hv
      rw [hE]
      show Calls _ _ _ _ fun e w' => e = .returned (fldR (resF ⟨k, 0, valT k v⟩ _) _) ∧ _
      rw [hT]
      exact fcanon_o k hk.1 hk.2 h3 h4 (bs v) _ _ (cleanT v) (cleanE v) y m d (dayE (cleanT v)) _ hv w L1 L2 hkd (fun W h => clean_calls (bs v) hz W (HT W h).1) (fun W h => hp W (HT W h).2)
  · have hE : fldE ⟨k, l, v⟩ = 1 := if_neg hh
    rw [hE]
    show Calls _ _ _ _ fun e w' => e = .returned (fldR noFld 1) ∧ _
    by_cases hl : okL k l
    · have hk : kindL k = [] := kind_none (fun h => hh ((okKL_iff k l).2 ⟨h, hl⟩))
      rw [show decide (okL k l) = true by simp [hl]] at L1
      rw [hk] at L2
      exact fcanon_bad2 k l (bs v) _ _ w L1 L2 (by rw [bs_toL]; rfl)
    · rw [show decide (okL k l) = false by simp [hl]] at L1
      exact fcanon_bad1 k l (bs v) _ w L1

theorem mayF_dec (f : Fld) : decide (fldE f = 0 ∧ fldC f = f) = mayF f := by
  by_cases h : MayF f
  · rw [mayF_t h]; simp [h.1, may_fldC h]
  · rw [mayF_f h, decide_eq_false_iff_not]
    rintro ⟨h1, h2⟩
    have := fldC_may h1
    rw [h2] at this
    exact h this
theorem fmay_calls (f : Fld) (hs : f.v.length ≤ 1000000) (w : World) (ht : Tbs w) : Calls Tryz.prog 201 #[fldV f] w fun e w' => e = .returned (.bool (mayF f)) ∧ Below w.heap.size w w' := by
  have := may_of f (fldC f) (fldE f) w (fun W h => fcanon_calls f hs W (ht.below h))
  rwa [mayF_dec] at this
end Go.Proofs.YtfacfdjapjhpeaaGreatDoor
namespace Go.Proofs.YtfacfdjapjhpeaaGreatDoor
open Go.RowKit

theorem kindL_len (k : Int) : (kindL k).length ≤ 4 := by
  unfold kindL
  repeat' split
  all_goals simp
theorem labL_len (l : Int) : (labL l).length ≤ 5 := by
  unfold labL
  repeat' split
  all_goals simp
theorem raw_sum (k l : Int) (v : List UInt8) : bs (kindL k) ++ bs (labL l) ++ ⟨#[58]⟩ ++ bs v = bs (rawL ⟨k, l, v⟩) := by
  have : (⟨#[58]⟩ : ByteArray) = bs [58] := rfl
  rw [this, bs_app2, bs_app2, bs_app2]
  congr 1
  simp [rawL, headL]

set_option maxRecDepth 100000 in
set_option maxHeartbeats 2000000 in
theorem fline_calls (f : Fld) (hs : f.v.length ≤ 1000000) (w : World) (ht : Tbs w) : Calls Tryz.prog 181 #[fldV f] w fun e w' => e = .returned (.string (bs (lineF f))) ∧ Below w.heap.size w w' := by
  have C1 := hd (fun W h => fmay_calls f hs W (ht.below h) : ∀ W, Below w.heap.size w W → _)
  obtain ⟨L, hL⟩ : ∃ L, lineF f = L := ⟨_, rfl⟩
  rw [hL]
  have hR := raw_sum f.k f.l f.v
  have hl1 := kindL_len f.k
  have hl2 := labL_len f.l
  rw [← bs_size] at hl1 hl2
  have hz3 : (bs f.v).size ≤ 1000000 := by rw [bs_size]; exact hs
  have HB0 := hd ((Below.refl w.heap.size w).alloc (Nat.le_refl _) (.cells #[.int .i64 f.k, .int .i64 f.l, .string (bs f.v)] 230))
  have HK := hd (Blk.new w 230 #[.int .i64 f.k, .int .i64 f.l, .string (bs f.v)])
  by_cases hm : MayF f
  · rw [mayF_t hm] at C1
    have hok := may_ok hm
    obtain ⟨hk, hl⟩ := (okKL_iff _ _).1 hok
    have C2 := label_calls f.k f.l
    have C3 := kind_calls f.k
    rw [show decide (okL f.k f.l) = true by simp [hl], show labV f.k f.l = labL f.l by rw [labV, if_pos hl]] at C2
    rw [line_yes hm] at hL
    have HL := hd hL
    obtain ⟨k, l, v⟩ := f
    simp only [fldV] at C1
    change Calls _ _ #[.agg #[.int .i64 k, .int .i64 l, .string (bs v)]] _ _
    simp only at hR hl1 hl2 hz3 HB0 HK C2 C3
    obtain ⟨K, hK⟩ : ∃ K, bs (kindL k) = K := ⟨_, rfl⟩
    obtain ⟨B, hB⟩ : ∃ B, bs (labL l) = B := ⟨_, rfl⟩
    obtain ⟨V, hV⟩ : ∃ V, bs v = V := ⟨_, rfl⟩
    rw [hK] at C3 hl1
    rw [hB] at C2 hl2
    rw [hV] at C1 hz3 HB0 HK ⊢
    rw [hK, hB, hV] at hR
    have HR := hd hR
    have H2 := hd C2
    have H3 := hd C3
    clear hK hB hV hR C2 C3 hL hm hok hk hl hs ht
    go_enter Tryz.func181, Tryz.ntmps181
    go_wp2_with fail
    refine (C1.o _ HB0.o).mono ?_
    rintro e w1 ⟨rfl, hb1⟩
    have k1 := HK.o.below hb1 (by simp)
    have HB1 := hd (HB0.o.trans (hb1.mono HB0.o.size))
    have a0 := k1.at_ 0 rfl
    have a1 := k1.at_ 1 rfl
    have a2 := k1.at_ 2 rfl
    clear k1 hb1 HK HB0 C1
    go_wp2_with fail
    refine (H2.o _).mono ?_
    rintro e w2 ⟨rfl, rfl⟩
    go_wp2_with fail
    go_quiet ((go_at_call 180; exact q1 (H3.o _)))
    go_wp2
    go_ret
    exact ⟨retS (HR.o.trans (by rw [← HL.o])), bdrewN HB1.o _⟩
  · rw [mayF_f hm] at C1
    rw [line_no hm] at hL
    have HL := hd hL
    obtain ⟨k, l, v⟩ := f
    simp only [fldV] at C1
    change Calls _ _ #[.agg #[.int .i64 k, .int .i64 l, .string (bs v)]] _ _
    simp only at HB0 HK
    clear hL hm hs ht hR hl1 hl2 hz3
    go_enter Tryz.func181, Tryz.ntmps181
    go_wp2_with fail
    refine (C1.o _ HB0.o).mono ?_
    rintro e w1 ⟨rfl, hb1⟩
    have HB1 := hd (HB0.o.trans (hb1.mono HB0.o.size))
    clear hb1 HK HB0 C1
    go_wp2
    go_ret
    exact ⟨retS (by rw [← HL.o]; rfl), HB1.o⟩

end Go.Proofs.YtfacfdjapjhpeaaGreatDoor
namespace Go.Proofs.YtfacfdjapjhpeaaGreatDoor
open Go.RowKit

theorem shapeA {k : Int} (h : isK k = true) : (hT k = true ∧ hC k = false ∧ hU k = false ∧ hCd k = false ∧ hCn k = false) ∨ (hT k = false ∧ hC k = true ∧ hU k = false ∧ hCd k = false ∧ hCn k = false) ∨ (hT k = false ∧ hC k = true ∧ hU k = true ∧ hCd k = true ∧ hCn k = true) ∨
    (hT k = false ∧ hC k = true ∧ hU k = true ∧ hCd k = false ∧ hCn k = true) ∨ (hT k = false ∧ hC k = true ∧ hU k = true ∧ hCd k = false ∧ hCn k = false) ∨ (hT k = false ∧ hC k = false ∧ hU k = false ∧ hCd k = false ∧ hCn k = false) := by
  rcases kind_or h with rfl | rfl | rfl | rfl | rfl | rfl | rfl | rfl | rfl | rfl | rfl <;> decide
theorem shapeB {k : Int} (h : isK k = true) : (hO k = true ∧ hTk k = false ∧ hM k = false ∧ hTi k = false) ∨ (hO k = false ∧ hTk k = true ∧ hM k = true ∧ hTi k = false) ∨ (hO k = false ∧ hTk k = true ∧ hM k = false ∧ hTi k = true) ∨ (hO k = false ∧ hTk k = false ∧ hM k = false ∧ hTi k = false) := by
  rcases kind_or h with rfl | rfl | rfl | rfl | rfl | rfl | rfl | rfl | rfl | rfl | rfl <;> decide
/-- The three parts of 'stray'. -/
def strA (h1 h2 h3 h4 h5 : Bool) (tn col uid card : List UInt8) (ck cv : Int) : Bool := (!h1 && decide (tn ≠ [])) || (!h2 && decide (col ≠ [])) || (!h3 && decide (uid ≠ [])) || (!h4 && decide (card ≠ [])) || (!h5 && (decide (ck ≠ 0) || decide (cv ≠ 0)))
def strB (h6 h7 h8 h9 : Bool) (ops : List OpV) (tok most ticks : Int) : Bool := (!h6 && decide (ops ≠ [])) || (!h7 && decide (tok ≠ 0)) || (!h8 && decide (most ≠ 0)) || (!h9 && decide (ticks ≠ 0))
def strC (ops : List OpV) : Bool := ops.any (fun o => o.del && decide (o.card ≠ []))
theorem str_parts (q : Rq) : strayB q = (strA (hT q.k) (hC q.k) (hU q.k) (hCd q.k) (hCn q.k) q.tn q.col q.uid q.card q.ck q.cv || (strB (hO q.k) (hTk q.k) (hM q.k) (hTi q.k) q.ops q.tok q.most q.ticks || strC q.ops)) := by
  unfold strayB strA strB strC
  simp only [Bool.or_assoc]
structure SA (h1 h2 h3 h4 h5 : Bool) (tn col uid card : List UInt8) (ck cv : Int) (sa : Bool) : Prop where
  a1 : h1 = false → ¬ (bs tn).toList = [] → sa = true
  a2 : h2 = false → ¬ (bs col).toList = [] → sa = true
  a3 : h3 = false → ¬ (bs uid).toList = [] → sa = true
  a4 : h4 = false → ¬ (bs card).toList = [] → sa = true
  a5 : h5 = false → ¬ ck = 0 → sa = true
  a6 : h5 = false → ¬ cv = 0 → sa = true
  a0 : (h1 = false → (bs tn).toList = []) → (h2 = false → (bs col).toList = []) → (h3 = false → (bs uid).toList = []) → (h4 = false → (bs card).toList = []) → (h5 = false → ck = 0 ∧ cv = 0) → sa = false
theorem SA.mk_ {h1 h2 h3 h4 h5 : Bool} {tn col uid card : List UInt8} {ck cv : Int} {sa : Bool} (hA : strA h1 h2 h3 h4 h5 tn col uid card ck cv = sa) : SA h1 h2 h3 h4 h5 tn col uid card ck cv sa := by
  have a1 : h1 = false → ¬ (bs tn).toList = [] → sa = true := fun e1 e2 => by rw [bs_toL] at e2; rw [← hA, strA, e1]; simp [e2]
  have a2 : h2 = false → ¬ (bs col).toList = [] → sa = true := fun e1 e2 => by rw [bs_toL] at e2; rw [← hA, strA, e1]; simp [e2]
  have a3 : h3 = false → ¬ (bs uid).toList = [] → sa = true := fun e1 e2 => by rw [bs_toL] at e2; rw [← hA, strA, e1]; simp [e2]
  have a4 : h4 = false → ¬ (bs card).toList = [] → sa = true := fun e1 e2 => by rw [bs_toL] at e2; rw [← hA, strA, e1]; simp [e2]
  have a5 : h5 = false → ¬ ck = 0 → sa = true := fun e1 e2 => by rw [← hA, strA, e1]; simp [e2]
  have a6 : h5 = false → ¬ cv = 0 → sa = true := fun e1 e2 => by rw [← hA, strA, e1]; simp [e2]
  have a0 : (h1 = false → (bs tn).toList = []) → (h2 = false → (bs col).toList = []) → (h3 = false → (bs uid).toList = []) → (h4 = false → (bs card).toList = []) → (h5 = false → ck = 0 ∧ cv = 0) → sa = false := fun e1 e2 e3 e4 e5 => by
    rw [bs_toL] at e1 e2 e3 e4
    rw [← hA, strA]
    cases h1 <;> cases h2 <;> cases h3 <;> cases h4 <;> cases h5 <;> simp_all
  exact ⟨a1, a2, a3, a4, a5, a6, a0⟩
structure SZ (h6 h7 h8 h9 : Bool) (n : Nat) (tok most ticks : Int) (sB : Bool) : Prop where
  z1 : h6 = false → 0 < n → sB = true
  z2 : h7 = false → ¬ tok = 0 → sB = true
  z3 : h8 = false → ¬ most = 0 → sB = true
  z4 : h9 = false → (ticks != 0) = true → sB = true
  z0 : (h6 = false → ¬ 0 < n) → (h7 = false → tok = 0) → (h8 = false → most = 0) → (h9 = false → (ticks != 0) = false) → sB = false
  zt : (h6 = false → ¬ 0 < n) → (h7 = false → tok = 0) → (h8 = false → most = 0) → h9 = false → (ticks != 0) = sB
theorem SZ.mk_ {h6 h7 h8 h9 : Bool} {ops : List OpV} {tok most ticks : Int} {sB : Bool} (hB : strB h6 h7 h8 h9 ops tok most ticks = sB) : SZ h6 h7 h8 h9 ops.length tok most ticks sB := by
  have z1 : h6 = false → 0 < ops.length → sB = true := fun e1 e2 => by rw [← hB, strB, e1]; simp [List.ne_nil_of_length_pos e2]
  have z2 : h7 = false → ¬ tok = 0 → sB = true := fun e1 e2 => by rw [← hB, strB, e1]; simp [e2]
  have z3 : h8 = false → ¬ most = 0 → sB = true := fun e1 e2 => by rw [← hB, strB, e1]; simp [e2]
  have z4 : h9 = false → (ticks != 0) = true → sB = true := fun e1 e2 => by rw [← hB, strB, e1]; simp at e2; simp [e2]
  have z0 : (h6 = false → ¬ 0 < ops.length) → (h7 = false → tok = 0) → (h8 = false → most = 0) → (h9 = false → (ticks != 0) = false) → sB = false := fun e1 e2 e3 e4 => by
    have e1' : h6 = false → ops = [] := fun h => List.eq_nil_of_length_eq_zero (by have := e1 h; omega)
    have e4' : h9 = false → ticks = 0 := fun h => by have := e4 h; simpa using this
    rw [← hB, strB]
    cases h6 <;> cases h7 <;> cases h8 <;> cases h9 <;> simp_all
  exact ⟨z1, z2, z3, z4, z0, fun e1 e2 e3 e4 => by
    cases ht : (ticks != 0) with
    | true => exact (z4 e4 ht).symm
    | false => exact (z0 e1 e2 e3 (fun _ => ht)).symm⟩
theorem vb {a b : Bool} (h : a = b) : Value.bool a = Value.bool b := by rw [h]

set_option maxRecDepth 100000 in
set_option maxHeartbeats 8000000 in
theorem stray_calls (q : Rq) (A : Option Addr) (c : Nat) (h : isK q.k = true) (w : World) (hr : Rds w A q.ops.length 5 (opsE q.ops)) (hb : q.ops.length ≤ 1000000) :
    Calls Tryz.prog 68 #[reqV q A c, .agg (hasE q.k).toArray] w fun e w' => e = .returned (.bool (strayB q)) ∧ Below w.heap.size w w' := by
  have hsa := shapeA h
  have hsb := shapeB h
  obtain ⟨sb, hsq⟩ : ∃ sb, strayB q = sb := ⟨_, rfl⟩
  rw [hsq]
  rw [str_parts q] at hsq
  obtain ⟨k, tn, col, uid, card, ck, cv, ops, tok, most, ticks⟩ := q
  simp only at *
  unfold reqV reqE hasE
  simp only
  generalize hT k = h1 at *
  generalize hC k = h2 at *
  generalize hU k = h3 at *
  generalize hCd k = h4 at *
  generalize hCn k = h5 at *
  generalize hO k = h6 at *
  generalize hTk k = h7 at *
  generalize hM k = h8 at *
  generalize hTi k = h9 at *
  obtain ⟨sa, hA⟩ : ∃ sa, strA h1 h2 h3 h4 h5 tn col uid card ck cv = sa := ⟨_, rfl⟩
  obtain ⟨sB, hB⟩ : ∃ sB, strB h6 h7 h8 h9 ops tok most ticks = sB := ⟨_, rfl⟩
  rw [hA, hB] at hsq
  have HS := hd hsq
  have FA := hd (SA.mk_ hA)
  have FZ := SZ.mk_ hB
  obtain ⟨n, hn⟩ : ∃ n, ops.length = n := ⟨_, rfl⟩
  have HN := hd hn
  rw [hn] at hr hb FZ ⊢
  replace FZ := hd FZ
  have HR := hd hr
  clear hA hB hsq hn hr
  obtain ⟨X, hX⟩ : ∃ X, X = (w.alloc (.cells #[.int .i64 k, .string (bs tn), .string (bs col), .string (bs uid), .string (bs card), .int .i64 ck, .int .i64 cv, .slice A n c, .int .i64 tok, .int .i64 most, .int .i64 ticks] 45)).alloc (.cells #[.bool h1, .bool h2, .bool h3, .bool h4, .bool h5, .bool h6, .bool h7, .bool h8, .bool h9] 138) := ⟨_, rfl⟩
  have q1 : Blk X w.heap.size 45 #[.int .i64 k, .string (bs tn), .string (bs col), .string (bs uid), .string (bs card), .int .i64 ck, .int .i64 cv, .slice A n c, .int .i64 tok, .int .i64 most, .int .i64 ticks] := by rw [hX]; exact (Blk.new _ _ _).alloc _
  have q2 : Blk X (w.heap.size + 1) 138 #[.bool h1, .bool h2, .bool h3, .bool h4, .bool h5, .bool h6, .bool h7, .bool h8, .bool h9] := by rw [hX]; exact Blk.new_ _ _ (by simp) _ _
  have HBX := hd (show Below w.heap.size w X by rw [hX]; exact twoB _ _ _)
  have r1 := q1.at_ 1 rfl
  have r2 := q1.at_ 2 rfl
  have r3 := q1.at_ 3 rfl
  have r4 := q1.at_ 4 rfl
  have r5 := q1.at_ 5 rfl
  have r6 := q1.at_ 6 rfl
  have r7 := q1.at_ 7 rfl
  have r8 := q1.at_ 8 rfl
  have r9 := q1.at_ 9 rfl
  have r10 := q1.at_ 10 rfl
  have t0 := q2.at_ 0 rfl
  have t1 := q2.at_ 1 rfl
  have t2 := q2.at_ 2 rfl
  have t3 := q2.at_ 3 rfl
  have t4 := q2.at_ 4 rfl
  have t5 := q2.at_ 5 rfl
  have t6 := q2.at_ 6 rfl
  have t7 := q2.at_ 7 rfl
  have t8 := q2.at_ 8 rfl
  have HX := hd hX
  clear q1 q2 hX
  go_enter Tryz.func68, Tryz.ntmps68
  go_upto_region 1 with (fail)
  rw [← HX.o]
  go_cut [0, 1, 55] from 7 to 55 (fun _ _ s55 wx => s55 = .bool sa ∧ wx = X)
  case first =>
    clear hsb h
    rcases hsa with ⟨rfl, rfl, rfl, rfl, rfl⟩ | ⟨rfl, rfl, rfl, rfl, rfl⟩ | ⟨rfl, rfl, rfl, rfl, rfl⟩ | ⟨rfl, rfl, rfl, rfl, rfl⟩ | ⟨rfl, rfl, rfl, rfl, rfl⟩ | ⟨rfl, rfl, rfl, rfl, rfl⟩
    all_goals
      go_wp2_with fail
      all_goals
        go_meet
        first
          | exact ⟨vb (FA.o.a1 rfl (by assumption)).symm, rfl⟩
          | exact ⟨vb (FA.o.a2 rfl (by assumption)).symm, rfl⟩
          | exact ⟨vb (FA.o.a3 rfl (by assumption)).symm, rfl⟩
          | exact ⟨vb (FA.o.a4 rfl (by assumption)).symm, rfl⟩
          | exact ⟨vb (FA.o.a5 rfl (by assumption)).symm, rfl⟩
          | exact ⟨vb (FA.o.a6 rfl (by assumption)).symm, rfl⟩
          | exact ⟨vb (FA.o.a0 (fun h => by first | assumption | cases h) (fun h => by first | assumption | cases h) (fun h => by first | assumption | cases h) (fun h => by first | assumption | cases h) (fun h => by first | exact ⟨by first | assumption | rfl, by first | assumption | rfl⟩ | cases h)).symm, rfl⟩
  case rest =>
  obtain ⟨rfl, hwc⟩ := hcut
  subst hwc
  cases sa with
  | true =>
    go_wp2
    go_ret
    exact ⟨ret_bool (by rw [← HS.o]; rfl), HBX.o⟩
  | false =>
  go_upto_region 3 with (fail)
  go_cut [55, 94] from 56 to 94 (fun _ s94 wx => s94 = .bool sB ∧ wx = wc)
  case first =>
    rcases hsb with ⟨rfl, rfl, rfl, rfl⟩ | ⟨rfl, rfl, rfl, rfl⟩ | ⟨rfl, rfl, rfl, rfl⟩ | ⟨rfl, rfl, rfl, rfl⟩
    all_goals
      go_wp2_with fail
      all_goals
        go_meet
        first
          | exact ⟨vb (FZ.o.z1 rfl (by first | assumption | omega)).symm, rfl⟩
          | exact ⟨vb (FZ.o.z2 rfl (by assumption)).symm, rfl⟩
          | exact ⟨vb (FZ.o.z3 rfl (by assumption)).symm, rfl⟩
          | exact ⟨vb (FZ.o.z4 rfl (by assumption)).symm, rfl⟩
          | exact ⟨vb (FZ.o.z0 (fun h => by first | assumption | omega | cases h) (fun h => by first | assumption | cases h) (fun h => by first | assumption | cases h) (fun h => by first | assumption | cases h)).symm, rfl⟩
          | exact ⟨vb (FZ.o.zt (fun h => by first | assumption | omega | cases h) (fun h => by first | assumption | cases h) (fun h => by first | assumption | cases h) rfl), rfl⟩
  case rest =>
  obtain ⟨rfl, hwd⟩ := hcut
  obtain rfl := hwd
  cases sB with
  | true =>
    go_wp2
    go_ret
    exact ⟨ret_bool (by rw [← HS.o]; rfl), HBX.o⟩
  | false =>
  have HS2 := hd (show strC ops = sb by rw [← HS.o]; rfl)
  clear hsa hsb t0 t1 t2 t3 t4 t5 t6 t7 t8 r1 r2 r3 r4 r5 r6 r8 r9 r10 FA FZ
  go_wp2_with fail
  go_loopw [98, 6] (fun i _ wr => ∃ k : Nat, i = .int .i64 k ∧ k ≤ n ∧ Hd (strC (ops.take k) = false) ∧ Hd (Below w.heap.size w wr) ∧ Hd (Below wc.heap.size wc wr)) (fun i _ _ => n - (RowKit.intOf i).toNat)
  case atStart => exact ⟨0, rfl, Nat.zero_le _, hd rfl, HBX, hd (Below.refl _ _)⟩
  case round =>
    obtain ⟨k, rfl, hk, HV, HB, HBC⟩ := hrel
    have hki : (0 : Int) ≤ (k : Int) := by omega
    by_cases hlt : k < n
    · have hlti : (k : Int) < (n : Int) := by omega
      have hkl : k < ops.length := by rw [HN.o]; exact hlt
      obtain ⟨g, o, rfl, hg, hc⟩ := HR.o.at_ (by omega)
      obtain ⟨x, hx⟩ : ∃ x, ops[k]'hkl = x := ⟨_, rfl⟩
      have HT : Hd (ops.take (k + 1) = ops.take k ++ [x]) := hd (by rw [List.take_succ_eq_append_getElem hkl, hx])
      have HMEM : Hd (x ∈ ops) := hd (by rw [← hx]; exact List.getElem_mem hkl)
      have hcell : ∀ j u, j < 5 → (opEnc x)[j]? = some u → wr.cell? ⟨g, o + (k * 5 + j), none⟩ = some u := fun j u hj hv => (HB.o.cell (p := ⟨g, o + (k * 5 + j), none⟩) hg).trans (hc _ _ ((opsE_at ops k hkl j hj).trans (by rw [hx]; exact hv)))
      obtain ⟨xd, xu, xc, xk, xv⟩ := x
      have k0 := hcell 0 _ (by omega) rfl
      have k1 := hcell 1 _ (by omega) rfl
      have k2 := hcell 2 _ (by omega) rfl
      have k3 := hcell 3 _ (by omega) rfl
      have k4 := hcell 4 _ (by omega) rfl
      rw [← Nat.add_assoc] at k0 k1 k2 k3 k4
      rw [Nat.add_zero] at k0
      have HA := hd (HB.o.alloc HB.o.size (.cells #[.bool xd, .string (bs xu), .string (bs xc), .int .i64 xk, .int .i64 xv] 60))
      have HAC := hd (HBC.o.alloc HBC.o.size (.cells #[.bool xd, .string (bs xu), .string (bs xc), .int .i64 xk, .int .i64 xv] 60))
      have HBAD := hd (show (xd && decide (xc ≠ [])) = true → sb = true from fun h => by
        rw [← HS2.o, strC]
        exact List.any_eq_true.2 ⟨_, HMEM.o, h⟩)
      have HGO := hd (show (xd && decide (xc ≠ [])) = false → strC (ops.take (k + 1)) = false from fun h => by
        have := HV.o
        unfold strC at *
        rw [HT.o, List.any_append, this]
        simpa using h)
      clear hcell hc hx hkl
      cases xd with
      | false =>
        have HG := hd (HGO.o rfl)
        go_wp2
        go_roundw
        case rel => exact ⟨k + 1, by go_num, by omega, HG, HA, HAC⟩
        case measure => simp [RowKit.intOf]; omega
      | true =>
        by_cases hcc : (bs xc).toList = []
        · have HG := hd (HGO.o (by rw [bs_toL] at hcc; rw [hcc]; rfl))
          go_wp2
          exact ⟨⟨k + 1, by go_num, by omega, HG, HA, HAC⟩, by simp [RowKit.intOf]; omega⟩
        · have HG := hd (HBAD.o (by rw [bs_toL] at hcc; simpa using hcc))
          have hcc1 : (!(bs xc).toList.isEmpty) = true := by simpa using hcc
          have hcc2 : ((bs xc).toList != []) = true := by simpa using hcc
          have hcc3 : (bs xc).toList.isEmpty = false := by simpa using hcc
          go_wp2
          go_ret
          exact ⟨ret_bool HG.o.symm, HA.o⟩
    · obtain rfl : k = n := by omega
      have HE : Hd (sb = false) := hd (by
        rw [← HS2.o, ← HV.o, List.take_of_length_le (by rw [HN.o]; exact Nat.le_refl _)])
      go_wp2
      go_ret
      exact ⟨ret_bool HE.o.symm, HB.o⟩

end Go.Proofs.YtfacfdjapjhpeaaGreatDoor
namespace Go.Proofs.YtfacfdjapjhpeaaGreatDoor
open Go.RowKit Go.Sort

def fEnc (f : Fld) : List Value := [.int .i64 f.k, .int .i64 f.l, .string (bs f.v)]
def fsE (l : List Fld) : List Value := l.flatMap fEnc
theorem fEnc_len (f : Fld) : (fEnc f).length = 3 := rfl
theorem fsE_at (l : List Fld) (i : Nat) (h : i < l.length) (j : Nat) (hj : j < 3) : (fsE l)[i * 3 + j]? = (fEnc l[i])[j]? := flat_at fEnc 3 fEnc_len l i h j hj
theorem fsE_app (a b : List Fld) : fsE (a ++ b) = fsE a ++ fsE b := by unfold fsE; rw [List.flatMap_append]
theorem fsE_snoc (a : List Fld) (f : Fld) : fsE (a ++ [f]) = fsE a ++ fEnc f := by rw [fsE_app]; simp [fsE]
theorem fEnc_one (f : Fld) (v : Value) (h : v ∈ fEnc f) : v.oneCell' = true := by
  simp only [fEnc, List.mem_cons, List.mem_nil_iff, or_false] at h
  rcases h with rfl | rfl | rfl <;> rfl
/-- Two boxes behind each other. -/
def two_c (w' w : World) (t : TypeId) (c1 c2 : Array Value) : Prop := Blk w' w.heap.size t c1 ∧ Blk w' (w.heap.size + 1) t c2
theorem two_c_of (w : World) (t : TypeId) (c1 c2 : Array Value) (os : Array Obj) : two_c (grow ((w.alloc (.cells c1 t)).alloc (.cells c2 t)) os) w t c1 c2 := by
  have h1 : Blk ((w.alloc (.cells c1 t)).alloc (.cells c2 t)) w.heap.size t c1 := (Blk.new w t c1).alloc _
  have h2 : Blk ((w.alloc (.cells c1 t)).alloc (.cells c2 t)) (w.heap.size + 1) t c2 := Blk.new_ _ _ (by simp) _ _
  exact ⟨(heap_grow_old _ _ h1.lt).trans h1, (heap_grow_old _ _ h2.lt).trans h2⟩

end Go.Proofs.YtfacfdjapjhpeaaGreatDoor
namespace Go.Proofs.YtfacfdjapjhpeaaGreatDoor
open Go.Shelf
def sortFs_ren : Go.Shelf.Ren := ⟨fun | 6 => 203 | 15 => 171 | 14 => 229 | 28 => 195 | 29 => 196 | 20 => 249 | 21 => 250 | 22 => 251 | 23 => 252 | 24 => 253 | 25 => 254 | 26 => 255 | 27 => 256 | 46 => 267 | 47 => 211 | 48 => 212 | 49 => 268 | 50 => 269 | 57 => 279 | n => n, fun | 22 => 198 | 24 => 230 | 25 => 273 | 3 => 3 | 39 => 205 | 0 => 0 | 53 => 267 | 55 => 168 | 4 => 4 | 46 => 261 | 45 => 260 | 50 => 142 | 5 => 5 | 9 => 9 | 66 => 284 | 70 => 288 | 76 => 302 | 77 => 303 | n => n, fun | n => n⟩
theorem sortFs : Go.Proofs.SlLaysF0.n6 Tryz.prog sortFs_ren := {
  mixed := by kernel_rfl
  f6 := ⟨Tryz.f203.name, by decide, Tryz.func203.trans (congrArg some (by kernel_rfl))⟩
  f14 := ⟨Tryz.f229.name, by decide, Tryz.func229.trans (congrArg some (by kernel_rfl))⟩
  f15 := Tryz.func171.trans (congrArg some (by kernel_rfl))
  f20 := ⟨Tryz.f249.name, by decide, Tryz.func249.trans (congrArg some (by kernel_rfl))⟩
  f21 := ⟨Tryz.f250.name, by decide, Tryz.func250.trans (congrArg some (by kernel_rfl))⟩
  f22 := ⟨Tryz.f251.name, by decide, Tryz.func251.trans (congrArg some (by kernel_rfl))⟩
  f23 := ⟨Tryz.f252.name, by decide, Tryz.func252.trans (congrArg some (by kernel_rfl))⟩
  f24 := ⟨Tryz.f253.name, by decide, Tryz.func253.trans (congrArg some (by kernel_rfl))⟩
  f25 := ⟨Tryz.f254.name, by decide, Tryz.func254.trans (congrArg some (by kernel_rfl))⟩
  f26 := ⟨Tryz.f255.name, by decide, Tryz.func255.trans (congrArg some (by kernel_rfl))⟩
  f27 := ⟨Tryz.f256.name, by decide, Tryz.func256.trans (congrArg some (by kernel_rfl))⟩
  f28 := Tryz.func195.trans (congrArg some (by kernel_rfl))
  f29 := Tryz.func196.trans (congrArg some (by kernel_rfl))
  f46 := ⟨Tryz.f267.name, by decide, Tryz.func267.trans (congrArg some (by kernel_rfl))⟩
  f47 := Tryz.func211.trans (congrArg some (by kernel_rfl))
  f48 := Tryz.func212.trans (congrArg some (by kernel_rfl))
  f49 := ⟨Tryz.f268.name, by decide, Tryz.func268.trans (congrArg some (by kernel_rfl))⟩
  f50 := ⟨Tryz.f269.name, by decide, Tryz.func269.trans (congrArg some (by kernel_rfl))⟩
  f57 := ⟨Tryz.f279.name, by decide, Tryz.func279.trans (congrArg some (by kernel_rfl))⟩
  t0 := Tryz.underlying0
  a0 := Tryz.isAgg0
  z0 := Tryz.sizeOf0
  v0 := Tryz.zeroValue0
  t3 := Tryz.underlying3
  a3 := Tryz.isAgg3
  z3 := Tryz.sizeOf3
  v3 := Tryz.zeroValue3
  t4 := Tryz.underlying4
  a4 := Tryz.isAgg4
  z4 := Tryz.sizeOf4
  v4 := Tryz.zeroValue4
  t5 := Tryz.underlying5
  a5 := Tryz.isAgg5
  z5 := Tryz.sizeOf5
  v5 := Tryz.zeroValue5
  t9 := Tryz.underlying9
  a9 := Tryz.isAgg9
  z9 := Tryz.sizeOf9
  v9 := Tryz.zeroValue9
  t22 := Tryz.underlying198
  a22 := Tryz.isAgg198
  z22 := Tryz.sizeOf198
  v22 := Tryz.zeroValue198
  t25 := Tryz.underlying273
  a25 := Tryz.isAgg273
  z25 := Tryz.sizeOf273
  v25 := Tryz.zeroValue273
  t39 := Tryz.underlying205
  a39 := Tryz.isAgg205
  z39 := Tryz.sizeOf205
  v39 := Tryz.zeroValue205
  t45 := Tryz.underlying260
  a45 := Tryz.isAgg260
  z45 := Tryz.sizeOf260
  v45 := Tryz.zeroValue260
  t46 := Tryz.underlying261
  a46 := Tryz.isAgg261
  z46 := Tryz.sizeOf261
  v46 := Tryz.zeroValue261
  t50 := Tryz.underlying142
  a50 := Tryz.isAgg142
  z50 := Tryz.sizeOf142
  v50 := Tryz.zeroValue142
  t53 := Tryz.underlying267
  a53 := Tryz.isAgg267
  z53 := Tryz.sizeOf267
  v53 := Tryz.zeroValue267
  t55 := Tryz.underlying168
  a55 := Tryz.isAgg168
  z55 := Tryz.sizeOf168
  v55 := Tryz.zeroValue168
  t66 := Tryz.underlying284
  a66 := Tryz.isAgg284
  z66 := Tryz.sizeOf284
  v66 := Tryz.zeroValue284
  t70 := Tryz.underlying288
  a70 := Tryz.isAgg288
  z70 := Tryz.sizeOf288
  v70 := Tryz.zeroValue288
  t76 := Tryz.underlying302
  a76 := Tryz.isAgg302
  z76 := Tryz.sizeOf302
  v76 := Tryz.zeroValue302
  t77 := Tryz.underlying303
  a77 := Tryz.isAgg303
  z77 := Tryz.sizeOf303
  v77 := Tryz.zeroValue303 }
end Go.Proofs.YtfacfdjapjhpeaaGreatDoor
namespace Go.Proofs.YtfacfdjapjhpeaaGreatDoor
open Go.RowKit Go.Shelf Go.Lib Go.Sort

instance : Inhabited Fld := ⟨noFld⟩
def fCmp (x y : Fld) : Int := if lessF x y = true then -1 else if lessF y x = true then 1 else 0
theorem lessF_eq (x y : Fld) : lessF x y = true ↔ LessP x y := by simp [lessF]
theorem ltOf_f (x y : Fld) : ltOf fCmp x y = lessF x y := by
  rw [Bool.eq_iff_iff]
  simp only [ltOf, fCmp, decide_eq_true_iff]
  by_cases h1 : lessF x y = true
  · simp [h1]
  · by_cases h2 : lessF y x = true <;> simp [h1, h2]
theorem swo_f : SWO (ltOf fCmp) where
  irrefl x := by rw [ltOf_f]; simp [lessF, less_irr]
  trans x y z h1 h2 := by
    rw [ltOf_f, lessF_eq] at *
    exact less_trans h1 h2
  ntrans x y z h1 h2 := by
    rw [ltOf_f] at *
    have e1 : ¬ LessP x y := by rw [← lessF_eq]; simp [h1]
    have e2 : ¬ LessP y z := by rw [← lessF_eq]; simp [h2]
    have : ¬ LessP x z := by
      intro h
      by_cases hxy : x = y
      · subst hxy; exact e2 h
      · have := less_not e1 hxy
        exact e2 (less_trans this h)
    simpa [lessF] using this

set_option maxHeartbeats 1000000 in
theorem less_grow (f g : Fld) (w : World) : Calls Tryz.prog 230 #[fldV f, fldV g] w fun e w' => e = .returned (.bool (lessF f g)) ∧ ∃ os', w' = grow w os' := by
  obtain ⟨v, hv⟩ : ∃ v, lessF f g = v := ⟨_, rfl⟩
  rw [hv]
  have HV : Hd (decide (LessP f g) = v) := hd hv
  have hs := bytesLess_dec f.v g.v
  clear hv
  obtain ⟨fk, fl, fv⟩ := f
  obtain ⟨gk, gl, gv⟩ := g
  change Calls _ _ #[.agg #[.int .i64 fk, .int .i64 fl, .string (bs fv)], .agg #[.int .i64 gk, .int .i64 gl, .string (bs gv)]] _ _
  by_cases h1 : fk = gk
  · by_cases h2 : fl = gl
    · subst h1 h2
      have HX := hd (show decide (compareBytes fv gv < 0) = v by
        rw [← HV.o]; congr 1; simp [LessP])
      go_enter Tryz.func230, Tryz.ntmps230
      go_wp2
      go_ret
      exact ⟨retBB (by rw [HX.o]), _, by rw [alloc_eq_grow, alloc_eq_grow, grow_grow]⟩
    · subst h1
      have n2 : (fl != gl) = true := by simpa using h2
      have HX := hd (show decide (fl < gl) = v by
        rw [← HV.o]; congr 1; simp [LessP, h2])
      clear h2
      go_enter Tryz.func230, Tryz.ntmps230
      go_wp2
      go_ret
      exact ⟨retBB (by rw [HX.o]), _, by rw [alloc_eq_grow, alloc_eq_grow, grow_grow]⟩
  · have n1 : (fk != gk) = true := by simpa using h1
    have HX := hd (show decide (fk < gk) = v by
      rw [← HV.o]; congr 1; simp [LessP, h1])
    clear h1
    go_enter Tryz.func230, Tryz.ntmps230
    go_wp2
    go_ret
    exact ⟨retBB (by rw [HX.o]), _, by rw [alloc_eq_grow, alloc_eq_grow, grow_grow]⟩

theorem retII {a b : Int} (h : a = b) : Ending.returned (.int .i64 a) = .returned (.int .i64 b) := by rw [h]
set_option maxHeartbeats 1000000 in
theorem forder_calls (x y : Fld) (W : World) : Calls Tryz.prog 204 #[.agg (fEnc x).toArray, .agg (fEnc y).toArray] W fun e w' => e = .returned (.int .i64 (fCmp x y)) ∧ ∃ q os', w' = grow (W.drewN q) os' := by
  have L1 := less_grow x y
  have L2 := less_grow y x
  obtain ⟨v, hv⟩ : ∃ v, fCmp x y = v := ⟨_, rfl⟩
  rw [hv]
  have HV := hd hv
  clear hv
  unfold fCmp at HV
  obtain ⟨xk, xl, xv⟩ := x
  obtain ⟨yk, yl, yv⟩ := y
  simp only [fldV] at L1 L2
  simp only [fEnc]
  generalize bs xv = XV at L1 L2 ⊢
  generalize bs yv = YV at L1 L2 ⊢
  have hC : ∀ os, two_c (grow ((W.alloc (.cells #[.int .i64 xk, .int .i64 xl, .string XV] 230)).alloc (.cells #[.int .i64 yk, .int .i64 yl, .string YV] 230)) os) W 230 #[.int .i64 xk, .int .i64 xl, .string XV] #[.int .i64 yk, .int .i64 yl, .string YV] := fun os => two_c_of _ _ _ _ _
  cases h1 : lessF ⟨xk, xl, xv⟩ ⟨yk, yl, yv⟩ with
  | true =>
    rw [h1] at L1 HV
    have H1 := hd L1
    clear L1 L2 h1
    go_enter Tryz.func204, Tryz.ntmps204
    go_wp2_with fail
    refine (H1.o _).mono ?_
    rintro e w1 ⟨rfl, os, rfl⟩
    go_wp2
    go_ret
    exact ⟨retII (by rw [← HV.o]; rfl), 0, _, by rw [alloc_eq_grow, alloc_eq_grow, grow_grow, grow_grow]; rfl⟩
  | false =>
    rw [h1] at L1 HV
    cases h2 : lessF ⟨yk, yl, yv⟩ ⟨xk, xl, xv⟩ with
    | true =>
      rw [h2] at L2 HV
      have H1 := hd L1
      have H2 := hd L2
      clear L1 L2 h1 h2
      go_enter Tryz.func204, Tryz.ntmps204
      go_wp2_with fail
      refine (H1.o _).mono ?_
      rintro e w1 ⟨rfl, os, rfl⟩
      obtain ⟨k1, k2⟩ := hC os
      have a0 := k1.at_ 0 rfl
      have a1 := k1.at_ 1 rfl
      have a2 := k1.at_ 2 rfl
      have b0 := k2.at_ 0 rfl
      have b1 := k2.at_ 1 rfl
      have b2 := k2.at_ 2 rfl
      clear k1 k2
      go_wp2_with fail
      clear a0 a1 a2 b0 b1 b2
      refine (H2.o _).mono ?_
      rintro e w1 ⟨rfl, os2, rfl⟩
      go_wp2
      go_ret
      exact ⟨retII (by rw [← HV.o]; rfl), 0, _, by rw [alloc_eq_grow, alloc_eq_grow, grow_grow, grow_grow, grow_grow]; rfl⟩
    | false =>
      rw [h2] at L2 HV
      have H1 := hd L1
      have H2 := hd L2
      clear L1 L2 h1 h2
      go_enter Tryz.func204, Tryz.ntmps204
      go_wp2_with fail
      refine (H1.o _).mono ?_
      rintro e w1 ⟨rfl, os, rfl⟩
      obtain ⟨k1, k2⟩ := hC os
      have a0 := k1.at_ 0 rfl
      have a1 := k1.at_ 1 rfl
      have a2 := k1.at_ 2 rfl
      have b0 := k2.at_ 0 rfl
      have b1 := k2.at_ 1 rfl
      have b2 := k2.at_ 2 rfl
      clear k1 k2
      go_wp2_with fail
      clear a0 a1 a2 b0 b1 b2
      refine (H2.o _).mono ?_
      rintro e w1 ⟨rfl, os2, rfl⟩
      go_wp2
      go_ret
      exact ⟨retII (by rw [← HV.o]; rfl), 0, _, by rw [alloc_eq_grow, alloc_eq_grow, grow_grow, grow_grow, grow_grow]; rfl⟩

theorem fsE_len (l : List Fld) : (fsE l).length = l.length * 3 := flat_length fEnc 3 fEnc_len l
theorem fsE_at3 (l : List Fld) (t : Nat) (ht : t < l.length * 3) : (fsE l)[t]? = some (fEnc (l[t / 3]?.getD default))[t % 3]! := by
  have hk : t / 3 < l.length := by omega
  have h := flat_at fEnc 3 fEnc_len l (t / 3) hk (t % 3) (Nat.mod_lt _ (by decide))
  have ht2 : t / 3 * 3 + t % 3 = t := by omega
  rw [ht2] at h
  show (l.flatMap fEnc)[t]? = _
  rw [h]
  have hx : l[t / 3]?.getD default = l[t / 3] := by simp [hk]
  rw [hx]
  have hl : t % 3 < (fEnc l[t / 3]).length := by rw [fEnc_len]; exact Nat.mod_lt _ (by decide)
  rw [getElem!_pos (fEnc (l[t / 3])) (t % 3) hl, List.getElem?_eq_getElem hl]

/-- SortFunc. -/
def SortFs : Prop := ∀ (w : World) (S : Nat → Prop) (A : Option Addr) (n c : Nat) (l : List Fld), n = l.length → Row w S 230 3 A n c (fsE l) → n ≤ 1000000 →
  Calls Tryz.prog 203 #[.slice A n c, .func (.func 204) #[] #[]] w fun e w' => e = .returned (.tuple #[]) ∧ ∃ l' : List Fld, l'.Perm l ∧ l'.Pairwise (fun x y => lessF y x = false) ∧ Row w' S 230 3 A n c (fsE l') ∧ Chg (Of A) w w'

theorem fholdsK_of_row {w : World} {S : Nat → Prop} {g n c : Nat} {l : List Fld} (hr : Row w S 230 3 (some ⟨g, 0, none⟩) n c (fsE l)) (hn : n = l.length) : HoldsK fEnc 3 w g 0 l.toArray := by
  intro t ht
  rw [size_flatK] at ht
  simp only [List.size_toArray] at ht
  obtain ⟨g', hA, _, _, _, _, hc, hf⟩ := hr.at_ (by omega)
  injection hA with hA
  injection hA with hA
  subst hA
  refine ⟨?_, hf _⟩
  rw [Nat.zero_add]
  refine hc t _ ?_
  rw [get_flatK _ _ _ _ (by simpa using ht)]
  have hk : t / 3 < l.length := by omega
  have hx : (l.toArray)[t / 3]! = l[t / 3]?.getD default := by
    rw [getElem!_pos _ _ (by simpa using hk)]
    simp [hk]
  rw [hx]
  exact fsE_at3 l t (by omega)

theorem fflat_toList (l : List Fld) : (flatK fEnc 3 l.toArray).toList = fsE l := by
  apply List.ext_getElem?
  intro t
  by_cases ht : t < l.length * 3
  · rw [fsE_at3 l t ht, Array.getElem?_toList, Array.getElem?_eq_getElem (by rw [size_flatK]; simpa using ht)]
    rw [← getElem!_pos _ t (by rw [size_flatK]; simpa using ht), get_flatK _ _ _ _ (by simpa using ht)]
    have hx : (l.toArray)[t / 3]! = l[t / 3]?.getD default := by
      rw [getElem!_pos _ _ (by simp; omega)]
      simp [show t / 3 < l.length by omega]
    rw [hx]
  · rw [List.getElem?_eq_none (by rw [Array.length_toList, size_flatK]; simp; omega), List.getElem?_eq_none (by rw [fsE_len]; omega)]

/-- Behind the sort the same slice owns the sorted row. -/
theorem frow_sorted {w : World} {S : Nat → Prop} {g n c m : Nat} {l l' : List Fld} {os : Array Obj} (hr : Row w S 230 3 (some ⟨g, 0, none⟩) n c (fsE l)) (hn : n = l.length) (hl : l'.length = l.length) :
    Row (sortWorldK fEnc 3 w g 0 m l'.toArray os) S 230 3 (some ⟨g, 0, none⟩) n c (fsE l') ∧ Chg (Of (some ⟨g, 0, none⟩)) w (sortWorldK fEnc 3 w g 0 m l'.toArray os) := by
  obtain ⟨g', cur, e, hS, hb, hnc, hcm, hcs, ht⟩ := hr.block rfl
  injection e with e
  subst e
  have hg := hb.lt
  have hF : (flatK fEnc 3 l'.toArray).size = n * 3 := by rw [size_flatK]; simp [hl, hn]
  have hbl : Blk (sortWorldK fEnc 3 w g 0 m l'.toArray os) g 230 (putCells id 0 (flatK fEnc 3 l'.toArray) cur) := by
    unfold Blk sortWorldK
    rw [heap_grow_old _ _ (by simpa [putRowK] using hg)]
    unfold Blk at hb
    simp [putRowK, putRow, mapBlock, Sort.ahead, Array.getElem?_modify, hb, onCells]
  refine ⟨Row.of_block hbl hS hnc hcm (by simp [putCells, hcs]) ?_ (by rw [fsE_len, hl, hn]), ⟨rfl, rfl, rfl, by simp [sortWorldK, putRowK], fun k hk hne => ?_⟩⟩
  · rw [← fflat_toList, ← hF]
    apply List.ext_getElem?
    intro j
    by_cases hj : j < (flatK fEnc 3 l'.toArray).size
    · have hjc : j < cur.size := by omega
      rw [List.getElem?_take_of_lt hj, Array.getElem?_toList, Array.getElem?_toList]
      generalize flatK fEnc 3 l'.toArray = F at hj hF
      simp [putCells, hj, hjc]
    · rw [List.getElem?_take_eq_none (by omega), List.getElem?_eq_none (by rw [Array.length_toList]; omega)]
  · unfold sortWorldK
    rw [heap_grow_old _ _ (by simpa [putRowK] using hk)]
    have : g ≠ k := fun e => hne (by rw [← e]; rfl)
    simp [putRowK, putRow, mapBlock, Sort.ahead, Array.getElem?_modify, this]

theorem cmpLays_f (blk off size : Nat) (w : World) : CmpLays Tryz.prog 204 #[] fEnc 3 fCmp blk off size w :=
  fun _ _ _ _ x y => forder_calls x y _

theorem sortFs_holds : SortFs := by
  intro w S A n c l hn hr hsz
  cases A with
  | none =>
    obtain ⟨rfl, rfl, h3⟩ := hr.none_
    have hl : l = [] := List.eq_nil_of_length_eq_zero hn.symm
    subst hl
    have hcon := AnyF.slices_SortFunc_none sortFs none 0 (.func (.func 204) #[] #[]) w
    change Calls Tryz.prog 203 _ _ _ at hcon
    refine hcon.mono ?_
    rintro e w' ⟨rfl, rfl⟩
    exact ⟨rfl, [], List.Perm.refl _, List.Pairwise.nil, hr, Chg.refl _ _⟩
  | some a =>
    obtain ⟨g, cur, rfl, _⟩ := hr.block rfl
    have eg : ∀ args w, (callFunc 204 args).run Tryz.prog w = .ok (.enter 204 args) w := enters_of Tryz.func204 (by kernel_rfl) rfl
    by_cases h0 : n = 0
    · subst h0
      have hl : l = [] := List.eq_nil_of_length_eq_zero hn.symm
      subst hl
      have hcon := AnyF.slices_SortFunc_none sortFs (some ⟨g, 0, none⟩) c (.func (.func 204) #[] #[]) w
      change Calls Tryz.prog 203 _ _ _ at hcon
      refine hcon.mono ?_
      rintro e w' ⟨rfl, rfl⟩
      exact ⟨rfl, [], List.Perm.refl _, List.Pairwise.nil, hr, Chg.refl _ _⟩
    · have hcon := AnyQ.slices_SortFunc sortFs 3 Tryz.isAgg230 Tryz.sizeOf230 fEnc (fun _ => rfl) (fun x v hv => fEnc_one x v hv) fCmp swo_f 204 #[] g 0 c l.toArray w eg (cmpLays_f g 0 _ w) (fholdsK_of_row hr hn) (hr.lt rfl) (by simp; omega)
      change Calls Tryz.prog 203 _ _ _ at hcon
      have he : l.toArray.size = n := by simp [hn]
      rw [he] at hcon
      refine hcon.mono ?_
      rintro e w' ⟨rfl, d', m, os, hp, hs, rfl⟩
      have hd : d'.toList.Perm l := by
        have := hp.2.2
        have e1 : d'.size = n := by rw [hp.1, he]
        rw [← e1, Array.extract_size] at this
        rw [show d'.size = l.toArray.size by rw [e1, he], Array.extract_size] at this
        simpa using this
      have hrow := frow_sorted (m := m) (os := os) (l' := d'.toList) hr hn hd.length_eq
      simp only [Array.toArray_toList] at hrow
      refine ⟨rfl, d'.toList, hd, ?_, hrow.1, hrow.2⟩
      rw [List.pairwise_iff_getElem]
      intro i j hi hj hij
      have := hs i j (Nat.zero_le _) hij (by rw [← he, ← hp.1]; simpa using hj)
      rw [ltOf_f] at this
      simp only [Array.length_toList] at hi hj
      rw [getElem!_pos d' j hj, getElem!_pos d' i hi] at this
      simpa using this

end Go.Proofs.YtfacfdjapjhpeaaGreatDoor
