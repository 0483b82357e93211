/-
  req.reader: ops, the walk.
-/
import Derived.Test.YtogjokofmfpmgaaGreatDoorGAS
import Derived.Test.YtogjokofmfpmgaaGreatDoorGAC
import Derived.Deep.CutRange
import Derived.Test.YtogjokofmfpmgaaGreatDoorGAO
import Derived.Test.YtogjokofmfpmgaaGreatDoorGAL
set_option linter.unusedVariables false
set_option linter.unusedSimpArgs false
namespace Go.Proofs.YtogjokofmfpmgaaGreatDoor
open Go.RowKit

def markS (st : Option (List UInt8)) (v : Int) : Option (List UInt8) := if 1 < v then none else smallS st
def OpB (o : OpV) : Prop := o.uid.length ≤ 20000 ∧ o.card.length ≤ 20000 ∧ I64 o.ck ∧ I64 o.cv
theorem op_step {st : Option (List UInt8)} {v : Int} {s t : ByteArray} {ck cv : Int} (h : SmallOk st v) (hs : TextOk 20000 (markS st v) s)
    (ht : v ≠ 1 → TextOk 20000 (textS 20000 (markS st v)) t) (hc : CondOk (if v = 1 then textS 20000 (markS st v) else textS 20000 (textS 20000 (markS st v))) ck cv) :
    opS st = condS (if v = 1 then textS 20000 (markS st v) else textS 20000 (textS 20000 (markS st v))) ∧ opOk st ⟨decide (v = 1), s.data.toList, if v = 1 then [] else t.data.toList, ck, cv⟩ := by
  by_cases hv : 1 < v
  · obtain ⟨h1, h2⟩ := op_bad h hv
    refine ⟨?_, h2 _⟩
    rw [h1]
    unfold markS
    rw [if_pos hv]
    split <;> rfl
  · have e : markS st v = smallS st := by unfold markS; rw [if_neg hv]
    rw [e] at hs ht hc ⊢
    exact op_of h hv hs ht hc
theorem opEnc_one5 (o : OpV) : ∀ u ∈ opEnc o, u.oneCell' = true := by
  intro u hu
  simp [opEnc] at hu
  rcases hu with rfl | rfl | rfl | rfl | rfl <;> rfl
theorem opsE_snoc (L : List OpV) (o : OpV) : opsE (L ++ [o]) = opsE L ++ opEnc o := by simp [opsE]

/-- What the writes read are. -/
structure OpsR (w : World) (x g : Nat) (l : List UInt8) (st : Option (List UInt8)) (e : Ending) (w' : World) : Prop where
  o : ∃ (A : Option Addr) (n c : Nat) (L : List OpV), e = .returned (.slice A n c) ∧ Row w' (From w.heap.size) 43 5 A n c (opsE L) ∧ n = L.length ∧ n ≤ 16 ∧ OpsOk st L ∧ (∀ o ∈ L, OpB o) ∧ RdR w' x g l (opsS st) ∧ Chg (Two x g) w w'

set_option maxRecDepth 100000 in
set_option maxHeartbeats 8000000 in
theorem rops_calls (w : World) (x g : Nat) (l : List UInt8) (st : Option (List UInt8)) (h : RdR w x g l st) (hl : l.length ≤ 1000000) :
    Calls Tryz.prog 55 #[.pointer (some ⟨x, 0, none⟩)] w fun e w' => OpsR w x g l st e w' := by
  obtain ⟨i0, hi, hz0, hz1, hz2⟩ := info_parts opInfo
  have K1 := hd (rnum_calls w x g l st h hl)
  have HX := hd (fun k (hk : w.heap.size ≤ k) (hk2 : Two x g k) => show False from by
    have := h.lt
    rcases hk2 with hk2 | hk2 <;> omega)
  clear h
  go_enter Tryz.func55, Tryz.ntmps55
  go_wp2_with fail
  refine K1.o.mono ?_
  rintro e w1 ⟨v, rfl, hv, hr1, hc1⟩
  have HV := hd hv
  have hv0 := hv.1.1
  have hvm := hv.1.2
  have HR1 := hd hr1
  have HC1 := hd hc1
  obtain ⟨bad, st', hb, hp, hs⟩ := hr1.o
  have HS1 := hd (fun (b : Bool) (hbb : b = true ↔ bad = true ∨ 16 < v) => show RdR (w1.setCell ⟨x, 1, none⟩ (.bool b)) x g l (ops0 st v) from RdR.bad hb hp hs b (16 < v) hbb)
  have HSC := hd (fun (b : Bool) => show Chg (Two x g) w (w1.setCell ⟨x, 1, none⟩ (.bool b)) from hc1.setCell (p := ⟨x, 1, none⟩) (.inl (.inl rfl)) _)
  have b1 := hb.at_ 1 rfl
  have f1 := hb.frozen 1
  have hlt := hb.lt
  clear hv hr1 hc1 hb hp hs
  go_upto_region 3 with (fail)
  go_cut [] from 10 to 20 (fun wx => Hd (RdR wx x g l (ops0 st v)) ∧ Hd (Chg (Two x g) w wx))
  case first =>
    cases bad with
    | true =>
      have hf := hd (HS1.o true (by simp))
      clear HS1
      go_wp2_with fail
      go_meet
      exact ⟨hf, hd (HSC.o _)⟩
    | false =>
      by_cases h16 : 16 < v
      · have hf := hd (HS1.o true (by simp [h16]))
        have hd16 : decide ((16 : Int) < v) = true := by simpa using h16
        clear HS1
        go_wp2_with fail
        go_meet
        exact ⟨hf, hd (HSC.o _)⟩
      · have hf := hd (HS1.o false (by simp [h16]))
        have hd16 : decide ((16 : Int) < v) = false := by simpa using h16
        clear HS1
        go_wp2_with fail
        go_meet
        exact ⟨hf, hd (HSC.o _)⟩
  case rest =>
  obtain ⟨HR2, HC2⟩ := hcut
  clear b1 f1 hlt HS1 HSC HR1 HC1 K1
  go_wp2_with fail
  go_loopw [3, 5, 6, 7] (fun out i _ _ wr => ∃ (k : Nat) (A : Option Addr) (c : Nat) (L : List OpV), i = .int .i64 k ∧ out = .slice A k c ∧ (k : Int) ≤ v ∧ k ≤ 16 ∧ Hd (Row wr (From w.heap.size) 43 5 A k c (opsE L)) ∧ Hd (k = L.length) ∧ Hd (opsOk k (ops0 st v) L) ∧ Hd (∀ o ∈ L, OpB o) ∧ Hd (RdR wr x g l (opsK k (ops0 st v))) ∧ Hd (Chg (Two x g) w wr)) (fun _ i _ _ _ => (v - intOf i).toNat)
  case atStart => exact ⟨0, none, 0, [], rfl, rfl, hv0, by omega, hd (Row.nil _ _ _ _), hd rfl, hd (opsK_0 _).2, hd (fun o ho => by cases ho), hd (by rw [(opsK_0 _).1]; exact HR2.o), HC2⟩
  case round =>
    obtain ⟨k, A, c, L, rfl, rfl, hkv, hk16, HW, HL, HO, HB, HR, HC⟩ := hrel
    obtain ⟨wi, rfl⟩ : ∃ wi : World, wi = wr := ⟨_, rfl⟩
    by_cases hlt : (k : Int) < v
    · obtain ⟨bad', st'', hb, hp, hs⟩ := HR.o.o
      have hltd : decide ((k : Int) < v) = true := by simpa using hlt
      have b1 := hb.at_ 1 rfl
      have b0 := hb.at_ 0 rfl
      have HDEAD := hd (fun (hd' : opsK k (ops0 st v) = none) => ops_dead HV.o (k := k) (by omega) hd')
      cases bad' with
      | true =>
        have HD : Hd (opsK k (ops0 st v) = none) := hd (by rcases hs with ⟨h1, _⟩ | ⟨_, h2⟩; cases h1; exact h2)
        clear hb hp hs
        go_wp2
        go_ret
        refine ⟨⟨A, k, c, L, rfl, HW.o, HL.o, hk16, (HDEAD.o HD.o).2 L, HB.o, ?_, HC.o⟩⟩
        rw [(HDEAD.o HD.o).1, ← HD.o]
        exact HR.o
      | false =>
        have hst : st'' = opsK k (ops0 st v) := by rcases hs with ⟨_, h2⟩ | ⟨h1, _⟩; exact h2; cases h1
        have KE := hd (perr_calls wi g l st'' hp)
        have HST := hd hst
        clear hb hp hs hst
        go_wp2_with fail
        refine KE.o.mono ?_
        rintro e w9 ⟨er, rfl, her, rfl⟩
        by_cases he0 : er = 0
        case neg =>
          have hed : (er == 0) = false := by simpa using he0
          have HD : Hd (opsK k (ops0 st v) = none) := hd (by
            rw [← HST.o]
            cases hq : st'' with
            | none => rfl
            | some q => exact absurd (her.2 (by rw [hq]; simp)) he0)
          clear her he0
          go_wp2
          go_ret
          refine ⟨⟨A, k, c, L, rfl, HW.o, HL.o, hk16, (HDEAD.o HD.o).2 L, HB.o, ?_, HC.o⟩⟩
          rw [(HDEAD.o HD.o).1, ← HD.o]
          exact HR.o
        case pos =>
        have HAL : Hd (opsK k (ops0 st v) ≠ none) := hd (by rw [← HST.o]; exact her.1 he0)
        subst he0
        have hv16 : v ≤ 16 := by
          by_cases hv : 16 < v
          · exfalso
            apply HAL.o
            unfold ops0
            rw [if_pos hv]; rfl
          · omega
        clear her b0 b1
        have K2 := hd (rnum_calls wi x g l _ HR.o hl)
        go_wp2_with fail
        refine K2.o.mono ?_
        rintro e w2 ⟨m, rfl, hm, hr2, hc2⟩
        have HM := hd hm
        have hm0 := hm.1.1
        have hmm := hm.1.2
        obtain ⟨bad2, st2, hb, hp, hs⟩ := hr2.o
        have HS2 := hd (fun (b : Bool) (hbb : b = true ↔ bad2 = true ∨ 1 < m) => show RdR (w2.setCell ⟨x, 1, none⟩ (.bool b)) x g l (markS (opsK k (ops0 st v)) m) from RdR.bad hb hp hs b (1 < m) hbb)
        have hc2' := HC.o.trans hc2 (fun k hk => .inl hk)
        have HSC := hd (fun (b : Bool) => show Chg (Two x g) w (w2.setCell ⟨x, 1, none⟩ (.bool b)) from hc2'.setCell (p := ⟨x, 1, none⟩) (.inl (.inl rfl)) _)
        have HSW := hd (fun (b : Bool) => show Row (w2.setCell ⟨x, 1, none⟩ (.bool b)) (From w.heap.size) 43 5 A k c (opsE L) from (HW.o.chg hc2 HX.o).far (fun a ha => (HW.o.chg hc2 HX.o).ne_blk hb (by decide) a ha) _)
        have b1 := hb.at_ 1 rfl
        have f1 := hb.frozen 1
        have hlt2 := hb.lt
        clear hm hr2 hc2 hc2' hb hp hs
        go_upto_region 8 with (fail)
        go_cut [] from 43 to 52 (fun wx => Hd (RdR wx x g l (markS (opsK k (ops0 st v)) m)) ∧ Hd (Chg (Two x g) w wx) ∧ Hd (Row wx (From w.heap.size) 43 5 A k c (opsE L)))
        case first =>
          cases bad2 with
          | true =>
            have hf := hd (HS2.o true (by simp))
            clear HS2
            go_wp2_with fail
            go_meet
            exact ⟨hf, hd (HSC.o _), hd (HSW.o _)⟩
          | false =>
            by_cases h1 : 1 < m
            · have hf := hd (HS2.o true (by simp [h1]))
              have hd1 : decide ((1 : Int) < m) = true := by simpa using h1
              clear HS2
              go_wp2_with fail
              go_meet
              exact ⟨hf, hd (HSC.o _), hd (HSW.o _)⟩
            · have hf := hd (HS2.o false (by simp [h1]))
              have hd1 : decide ((1 : Int) < m) = false := by simpa using h1
              clear HS2
              go_wp2_with fail
              go_meet
              exact ⟨hf, hd (HSC.o _), hd (HSW.o _)⟩
        case rest =>
        obtain ⟨HR3, HC3, HW3⟩ := hcut
        clear b1 f1 hlt2 HS2 HSC HSW HR HC HW K2 KE HST HDEAD
        by_cases h1 : m = 1
        · subst h1
          have K3 := hd (rdtext_calls wc x g l _ HR3.o hl)
          go_wp2_with fail
          refine K3.o.mono ?_
          rintro e w3 ⟨s, rfl, hs3, hr3, hc3⟩
          have HS3 := hd hs3
          have HC4 := hd (HC3.o.trans hc3 (fun k hk => .inl hk))
          have HW4 := hd (HW3.o.chg hc3 HX.o)
          have hz3 := HC4.o.size
          have HR3' := hd hr3
          obtain ⟨w4, hw4⟩ : ∃ w4, w4 = w3.alloc (.cells #[.bool true, .string s, .string ⟨#[]⟩, .int .i64 0, .int .i64 0] 43) := ⟨_, rfl⟩
          have HO4 := hd (show Blk w4 w3.heap.size 43 #[.bool true, .string s, .string ⟨#[]⟩, .int .i64 0, .int .i64 0] by rw [hw4]; exact Blk.new _ _ _)
          have HR4 := hd (show RdR w4 x g l (textS 20000 (markS (opsK k (ops0 st v)) 1)) by rw [hw4]; exact hr3.alloc _)
          have HC5 := hd (show Chg (Two x g) w w4 by rw [hw4]; exact HC4.o.alloc _)
          have HW5 := hd (show Row w4 (From w.heap.size) 43 5 A k c (opsE L) by rw [hw4]; exact HW4.o.alloc _)
          have HWW4 := hd hw4
          have HN4 := hd (fun a (ha : A = some a) => show a.block ≠ w3.heap.size from by have := HW4.o.lt ha; omega)
          have HXN := hd (show ¬ Two x g w3.heap.size from fun h => HX.o _ hz3 h)
          have o40 := HO4.o.at_ 0 rfl
          have hl4 := HO4.o.lt
          clear hs3 hr3 hc3 hw4
          go_wp2_with fail
          rw [← HWW4.o]
          refine (rcond_calls w4 x g l _ HR4.o hl).mono ?_
          rintro e w7 ⟨ck, cv, rfl, hs7, hr7, hc7⟩
          have hb7 := HO4.o.chg hc7 HXN.o
          have HC8 := hd (HC5.o.trans hc7 (fun k hk => .inl hk))
          have HW8 := hd (HW5.o.chg hc7 HX.o)
          have HS7 := hd hs7
          have hl7 := hb7.lt
          have z3 := hb7.at_ 3 rfl
          have z4 := hb7.at_ 4 rfl
          have f3 := hb7.frozen 3
          have f4 := hb7.frozen 4
          have HPL := hd (op_step HM.o HS3.o (t := ⟨#[]⟩) (ck := ck) (cv := cv) (fun h => absurd rfl h) (by rw [if_pos rfl]; exact hs7))
          have HBO := hd (show OpB ⟨decide ((1 : Int) = 1), s.data.toList, if (1 : Int) = 1 then [] else (⟨#[]⟩ : ByteArray).data.toList, ck, cv⟩ from ⟨by have := HS3.o.1; rw [ba_size] at this; exact this, by simp, hs7.1, hs7.2.1⟩)
          have HEN := hd (show opEnc ⟨decide ((1 : Int) = 1), s.data.toList, if (1 : Int) = 1 then [] else (⟨#[]⟩ : ByteArray).data.toList, ck, cv⟩ = [.bool true, .string s, .string ⟨#[]⟩, .int .i64 ck, .int .i64 cv] by rfl)
          obtain ⟨ov, hov⟩ : ∃ ov : OpV, (⟨decide ((1 : Int) = 1), s.data.toList, if (1 : Int) = 1 then [] else (⟨#[]⟩ : ByteArray).data.toList, ck, cv⟩ : OpV) = ov := ⟨_, rfl⟩
          rw [hov] at HPL HBO HEN
          obtain ⟨w8, hw8⟩ : ∃ w8, w8 = (w7.setCell ⟨w3.heap.size, 3, none⟩ (.int .i64 ck)).setCell ⟨w3.heap.size, 4, none⟩ (.int .i64 cv) := ⟨_, rfl⟩
          have hb8 : Blk w8 w3.heap.size 43 #[.bool true, .string s, .string ⟨#[]⟩, .int .i64 ck, .int .i64 cv] := by rw [hw8]; exact (hb7.set_ 3 _).set_ 4 _
          have HR8 := hd (show RdR w8 x g l (opS (opsK k (ops0 st v))) by
            rw [hw8, HPL.o.1]
            rw [if_pos rfl]
            exact (hr7.far hb7 (by decide) (by decide) (by decide) _).far (hb7.set_ 3 _) (by decide) (by decide) (by decide) _)
          have HC9 := hd (show Chg (Two x g) w w8 by rw [hw8]; exact (HC8.o.setCell (p := ⟨w3.heap.size, 3, none⟩) (.inr hz3) _).setCell (p := ⟨w3.heap.size, 4, none⟩) (.inr hz3) _)
          have HW9 := hd (show Row w8 (From w.heap.size) 43 5 A k c (opsE L) by rw [hw8]; exact (HW8.o.far HN4.o _).far HN4.o _)
          have HWW8 := hd hw8
          have y0 := hb8.at_ 0 rfl
          have y1 := hb8.at_ 1 rfl
          have y2 := hb8.at_ 2 rfl
          have y3 := hb8.at_ 3 rfl
          have y4 := hb8.at_ 4 rfl
          have hl8 := hb8.lt
          have HNX := hd (opsK_succ HO.o HPL.o.2)
          have HRA := hd (HR8.o.alloc (.cells #[.bool true, .string s, .string ⟨#[]⟩, .int .i64 ck, .int .i64 cv] 43))
          have HWA := hd (HW9.o.own_.alloc (.cells #[.bool true, .string s, .string ⟨#[]⟩, .int .i64 ck, .int .i64 cv] 43))
          have HSUB := hd HW9.o.of_sub
          clear hs7 hr7 hc7 hb7 hw8 hb8 hov
          go_upto_region 13 with (fail)
          rw [← HWW8.o]
          go_wp2_with (at_builtin; refine wpList_append_row rfl _ _ 24 rfl (Of A) 43 i0 (.agg #[.bool false, .string ⟨#[]⟩, .string ⟨#[]⟩, .int .i64 0, .int .i64 0]) 5 56 Tryz.underlying24 hi hz0 hz1 hz2 rfl A k c (opsE L) rfl HWA.o ⟨w8.heap.size, 0, none⟩ 1 1 [.bool true, .string s, .string ⟨#[]⟩, .int .i64 ck, .int .i64 cv] rfl rfl (cells_at8 (Blk.new _ _ _) rfl) (by rw [← HEN.o]; exact opEnc_one5 _) (by omega) (by unfold maxLen; omega) (by omega) ?_; intro A9 c9 w9 hown9 hchg9)
          have HR9 := hd (HRA.o.chg hchg9 (fun q hq => by
            obtain ⟨g', cur, hA, _, hbl, _⟩ : ∃ g' cur, A = some ⟨g', 0, none⟩ ∧ True ∧ Blk (w8.alloc (.cells #[.bool true, .string s, .string ⟨#[]⟩, .int .i64 ck, .int .i64 cv] 43)) g' 43 cur ∧ True := by
              cases A with
              | none => exact (Of.none hq).elim
              | some a => obtain ⟨g', cur, rfl, _, hbl, _⟩ := HWA.o.block rfl; exact ⟨g', cur, rfl, trivial, hbl, trivial⟩
            rw [hA] at hq
            rw [hq.some_]
            exact .inr ⟨43, cur, hbl, by decide, by decide, by decide⟩))
          go_roundw
          case rel =>
            refine ⟨k + 1, A9, c9, L ++ [ov], by go_num, by rfl, by omega, by omega, hd ?_, hd ?_, hd HNX.o.2, hd ?_, hd ?_, hd ?_⟩
            · rw [opsE_snoc, HEN.o]
              exact hown9.mono (fun q hq => hq.elim (fun hq => HSUB.o q hq) (fun hq => Nat.le_trans HC9.o.size (by simp at hq; omega)))
            · rw [List.length_append, ← HL.o]; rfl
            · intro o ho
              rcases List.mem_append.1 ho with ho | ho
              · exact HB.o o ho
              · rw [List.mem_singleton.1 ho]; exact HBO.o
            · rw [HNX.o.1]; exact HR9.o
            · exact ((HC9.o.alloc _).trans hchg9 (fun q hq => .inr (HSUB.o q hq)))
          case measure => simp [intOf]; omega
        · have hmd : (m == 1) = false := by simpa using h1
          have HM1 := hd h1
          clear h1
          have K3 := hd (rdtext_calls wc x g l _ HR3.o hl)
          go_wp2_with fail
          refine K3.o.mono ?_
          rintro e w3 ⟨s, rfl, hs3, hr3, hc3⟩
          have HS3 := hd hs3
          have HC4 := hd (HC3.o.trans hc3 (fun k hk => .inl hk))
          have HW4 := hd (HW3.o.chg hc3 HX.o)
          have hz3 := HC4.o.size
          have HR3' := hd hr3
          obtain ⟨w4, hw4⟩ : ∃ w4, w4 = w3.alloc (.cells #[.bool false, .string s, .string ⟨#[]⟩, .int .i64 0, .int .i64 0] 43) := ⟨_, rfl⟩
          have HO4 := hd (show Blk w4 w3.heap.size 43 #[.bool false, .string s, .string ⟨#[]⟩, .int .i64 0, .int .i64 0] by rw [hw4]; exact Blk.new _ _ _)
          have HR4 := hd (show RdR w4 x g l (textS 20000 (markS (opsK k (ops0 st v)) m)) by rw [hw4]; exact hr3.alloc _)
          have HC5 := hd (show Chg (Two x g) w w4 by rw [hw4]; exact HC4.o.alloc _)
          have HW5 := hd (show Row w4 (From w.heap.size) 43 5 A k c (opsE L) by rw [hw4]; exact HW4.o.alloc _)
          have HWW4 := hd hw4
          have HN4 := hd (fun a (ha : A = some a) => show a.block ≠ w3.heap.size from by have := HW4.o.lt ha; omega)
          have HXN := hd (show ¬ Two x g w3.heap.size from fun h => HX.o _ hz3 h)
          have o40 := HO4.o.at_ 0 rfl
          have hl4 := HO4.o.lt
          clear hs3 hr3 hc3 hw4
          go_wp2_with fail
          rw [← HWW4.o]
          refine (rdtext_calls w4 x g l _ HR4.o hl).mono ?_
          rintro e w5 ⟨t, rfl, hs5, hr5, hc5⟩
          have HS5 := hd hs5
          have HC6 := hd (HC5.o.trans hc5 (fun k hk => .inl hk))
          have HW6 := hd (HW5.o.chg hc5 HX.o)
          have hb5 := HO4.o.chg hc5 HXN.o
          have hl5 := hb5.lt
          have q52 := hb5.at_ 2 rfl
          have f52 := hb5.frozen 2
          obtain ⟨w6, hw6⟩ : ∃ w6, w6 = w5.setCell ⟨w3.heap.size, 2, none⟩ (.string t) := ⟨_, rfl⟩
          have HO6 := hd (show Blk w6 w3.heap.size 43 #[.bool false, .string s, .string t, .int .i64 0, .int .i64 0] by rw [hw6]; exact hb5.set_ 2 _)
          have HR6 := hd (show RdR w6 x g l (textS 20000 (textS 20000 (markS (opsK k (ops0 st v)) m))) by rw [hw6]; exact hr5.far hb5 (by decide) (by decide) (by decide) _)
          have HC7 := hd (show Chg (Two x g) w w6 by rw [hw6]; exact HC6.o.setCell (p := ⟨w3.heap.size, 2, none⟩) (.inr hz3) _)
          have HW7 := hd (show Row w6 (From w.heap.size) 43 5 A k c (opsE L) by rw [hw6]; exact HW6.o.far HN4.o _)
          have HWW6 := hd hw6
          clear hs5 hr5 hc5 hb5 hw6
          go_wp2_with fail
          rw [← HWW6.o]
          refine (rcond_calls w6 x g l _ HR6.o hl).mono ?_
          rintro e w7 ⟨ck, cv, rfl, hs7, hr7, hc7⟩
          have hb7 := HO6.o.chg hc7 HXN.o
          have HC8 := hd (HC7.o.trans hc7 (fun k hk => .inl hk))
          have HW8 := hd (HW7.o.chg hc7 HX.o)
          have HS7 := hd hs7
          have hl7 := hb7.lt
          have z3 := hb7.at_ 3 rfl
          have z4 := hb7.at_ 4 rfl
          have f3 := hb7.frozen 3
          have f4 := hb7.frozen 4
          have HPL := hd (op_step HM.o HS3.o (t := t) (ck := ck) (cv := cv) (fun _ => HS5.o) (by rw [if_neg HM1.o]; exact hs7))
          have HBO := hd (show OpB ⟨decide (m = 1), s.data.toList, if (m : Int) = 1 then [] else (t : ByteArray).data.toList, ck, cv⟩ from ⟨by have := HS3.o.1; rw [ba_size] at this; exact this, by rw [if_neg HM1.o]; have := HS5.o.1; rw [ba_size] at this; exact this, hs7.1, hs7.2.1⟩)
          have HEN := hd (show opEnc ⟨decide (m = 1), s.data.toList, if (m : Int) = 1 then [] else (t : ByteArray).data.toList, ck, cv⟩ = [.bool false, .string s, .string t, .int .i64 ck, .int .i64 cv] by rw [if_neg HM1.o, decide_eq_false HM1.o]; rfl)
          obtain ⟨ov, hov⟩ : ∃ ov : OpV, (⟨decide (m = 1), s.data.toList, if (m : Int) = 1 then [] else (t : ByteArray).data.toList, ck, cv⟩ : OpV) = ov := ⟨_, rfl⟩
          rw [hov] at HPL HBO HEN
          obtain ⟨w8, hw8⟩ : ∃ w8, w8 = (w7.setCell ⟨w3.heap.size, 3, none⟩ (.int .i64 ck)).setCell ⟨w3.heap.size, 4, none⟩ (.int .i64 cv) := ⟨_, rfl⟩
          have hb8 : Blk w8 w3.heap.size 43 #[.bool false, .string s, .string t, .int .i64 ck, .int .i64 cv] := by rw [hw8]; exact (hb7.set_ 3 _).set_ 4 _
          have HR8 := hd (show RdR w8 x g l (opS (opsK k (ops0 st v))) by
            rw [hw8, HPL.o.1]
            rw [if_neg HM1.o]
            exact (hr7.far hb7 (by decide) (by decide) (by decide) _).far (hb7.set_ 3 _) (by decide) (by decide) (by decide) _)
          have HC9 := hd (show Chg (Two x g) w w8 by rw [hw8]; exact (HC8.o.setCell (p := ⟨w3.heap.size, 3, none⟩) (.inr hz3) _).setCell (p := ⟨w3.heap.size, 4, none⟩) (.inr hz3) _)
          have HW9 := hd (show Row w8 (From w.heap.size) 43 5 A k c (opsE L) by rw [hw8]; exact (HW8.o.far HN4.o _).far HN4.o _)
          have HWW8 := hd hw8
          have y0 := hb8.at_ 0 rfl
          have y1 := hb8.at_ 1 rfl
          have y2 := hb8.at_ 2 rfl
          have y3 := hb8.at_ 3 rfl
          have y4 := hb8.at_ 4 rfl
          have hl8 := hb8.lt
          have HNX := hd (opsK_succ HO.o HPL.o.2)
          have HRA := hd (HR8.o.alloc (.cells #[.bool false, .string s, .string t, .int .i64 ck, .int .i64 cv] 43))
          have HWA := hd (HW9.o.own_.alloc (.cells #[.bool false, .string s, .string t, .int .i64 ck, .int .i64 cv] 43))
          have HSUB := hd HW9.o.of_sub
          clear hs7 hr7 hc7 hb7 hw8 hb8 hov
          go_upto_region 13 with (fail)
          rw [← HWW8.o]
          go_wp2_with (at_builtin; refine wpList_append_row rfl _ _ 24 rfl (Of A) 43 i0 (.agg #[.bool false, .string ⟨#[]⟩, .string ⟨#[]⟩, .int .i64 0, .int .i64 0]) 5 56 Tryz.underlying24 hi hz0 hz1 hz2 rfl A k c (opsE L) rfl HWA.o ⟨w8.heap.size, 0, none⟩ 1 1 [.bool false, .string s, .string t, .int .i64 ck, .int .i64 cv] rfl rfl (cells_at8 (Blk.new _ _ _) rfl) (by rw [← HEN.o]; exact opEnc_one5 _) (by omega) (by unfold maxLen; omega) (by omega) ?_; intro A9 c9 w9 hown9 hchg9)
          have HR9 := hd (HRA.o.chg hchg9 (fun q hq => by
            obtain ⟨g', cur, hA, _, hbl, _⟩ : ∃ g' cur, A = some ⟨g', 0, none⟩ ∧ True ∧ Blk (w8.alloc (.cells #[.bool false, .string s, .string t, .int .i64 ck, .int .i64 cv] 43)) g' 43 cur ∧ True := by
              cases A with
              | none => exact (Of.none hq).elim
              | some a => obtain ⟨g', cur, rfl, _, hbl, _⟩ := HWA.o.block rfl; exact ⟨g', cur, rfl, trivial, hbl, trivial⟩
            rw [hA] at hq
            rw [hq.some_]
            exact .inr ⟨43, cur, hbl, by decide, by decide, by decide⟩))
          go_roundw
          case rel =>
            refine ⟨k + 1, A9, c9, L ++ [ov], by go_num, by rfl, by omega, by omega, hd ?_, hd ?_, hd HNX.o.2, hd ?_, hd ?_, hd ?_⟩
            · rw [opsE_snoc, HEN.o]
              exact hown9.mono (fun q hq => hq.elim (fun hq => HSUB.o q hq) (fun hq => Nat.le_trans HC9.o.size (by simp at hq; omega)))
            · rw [List.length_append, ← HL.o]; rfl
            · intro o ho
              rcases List.mem_append.1 ho with ho | ho
              · exact HB.o o ho
              · rw [List.mem_singleton.1 ho]; exact HBO.o
            · rw [HNX.o.1]; exact HR9.o
            · exact ((HC9.o.alloc _).trans hchg9 (fun q hq => .inr (HSUB.o q hq)))
          case measure => simp [intOf]; omega
    · have hltd : decide ((k : Int) < v) = false := by simpa using hlt
      have HE := hd (ops_of HV.o)
      have HKV : Hd (v.toNat = k) := hd (by omega)
      go_wp2
      go_ret
      have e := HE.o
      rw [HKV.o] at e
      exact ⟨⟨A, k, c, L, rfl, HW.o, HL.o, hk16, e.2 L HO.o, HB.o, by rw [e.1]; exact HR.o, HC.o⟩⟩

end Go.Proofs.YtogjokofmfpmgaaGreatDoor
namespace Go.Proofs.YtogjokofmfpmgaaGreatDoor
open Go.RowKit

def stS {α : Type} (f : List UInt8 → Option (α × List UInt8)) (st : Option (List UInt8)) : Option (List UInt8) := (st.bind f).map Prod.snd
def stOk {α : Type} (f : List UInt8 → Option (α × List UInt8)) (st : Option (List UInt8)) (v : α) : Prop := ∀ p, st.bind f = some p → v = p.1
theorem stS_at {α : Type} {f : List UInt8 → Option (α × List UInt8)} {l : List UInt8} {p : α × List UInt8} (h : f l = some p) : stS f (some l) = some p.2 := by unfold stS; rw [Option.bind_some, h]; rfl
theorem stS_no {α : Type} {f : List UInt8 → Option (α × List UInt8)} {l : List UInt8} (h : f l = none) : stS f (some l) = none := by unfold stS; rw [Option.bind_some, h]; rfl
theorem stOk_at {α : Type} {f : List UInt8 → Option (α × List UInt8)} {l : List UInt8} {p : α × List UInt8} {v : α} (h : f l = some p) (hv : stOk f (some l) v) : v = p.1 := hv p (by rw [Option.bind_some, h])
/-- All parts, one behind the other. -/
theorem raw_chain {k : Int} {l : List UInt8} {s1 s2 s3 s4 s5 s6 s7 s8 s9 : Option (List UInt8)} {tn col uid card : List UInt8} {cc : Int × Int} {ops : List OpV} {tok most ticks : Int}
    (e1 : s1 = stS (oT (hT k)) (some l)) (v1 : stOk (oT (hT k)) (some l) tn) (e2 : s2 = stS (oT (hC k)) s1) (v2 : stOk (oT (hC k)) s1 col) (e3 : s3 = stS (oT (hU k)) s2) (v3 : stOk (oT (hU k)) s2 uid) (e4 : s4 = stS (oT (hCd k)) s3) (v4 : stOk (oT (hCd k)) s3 card)
    (e5 : s5 = stS (oC (hCn k)) s4) (v5 : stOk (oC (hCn k)) s4 cc) (e6 : s6 = stS (oO (hO k)) s5) (v6 : stOk (oO (hO k)) s5 ops) (e7 : s7 = stS (oN (hTk k)) s6) (v7 : stOk (oN (hTk k)) s6 tok) (e8 : s8 = stS (oS (hM k)) s7) (v8 : stOk (oS (hM k)) s7 most)
    (e9 : s9 = stS (oS (hTi k)) s8) (v9 : stOk (oS (hTi k)) s8 ticks) :
    s9 = (rawAt k l).map Prod.snd ∧ ∀ p, rawAt k l = some p → (⟨k, tn, col, uid, card, cc.1, cc.2, ops, tok, most, ticks⟩ : Rq) = p.1 := by
  unfold rawAt
  cases h1 : oT (hT k) l with
  | none =>
    rw [stS_no h1] at e1
    subst e1 e2 e3 e4 e5 e6 e7 e8 e9
    exact ⟨rfl, fun p hp => by cases hp⟩
  | some p1 =>
    rw [stS_at h1] at e1
    have a1 := stOk_at h1 v1
    subst e1
    simp only [Option.bind_some]
    cases h2 : oT (hC k) p1.2 with
    | none =>
      rw [stS_no h2] at e2
      subst e2 e3 e4 e5 e6 e7 e8 e9
      exact ⟨rfl, fun p hp => by cases hp⟩
    | some p2 =>
      rw [stS_at h2] at e2
      have a2 := stOk_at h2 v2
      subst e2
      simp only [Option.bind_some]
      cases h3 : oT (hU k) p2.2 with
      | none =>
        rw [stS_no h3] at e3
        subst e3 e4 e5 e6 e7 e8 e9
        exact ⟨rfl, fun p hp => by cases hp⟩
      | some p3 =>
        rw [stS_at h3] at e3
        have a3 := stOk_at h3 v3
        subst e3
        simp only [Option.bind_some]
        cases h4 : oT (hCd k) p3.2 with
        | none =>
          rw [stS_no h4] at e4
          subst e4 e5 e6 e7 e8 e9
          exact ⟨rfl, fun p hp => by cases hp⟩
        | some p4 =>
          rw [stS_at h4] at e4
          have a4 := stOk_at h4 v4
          subst e4
          simp only [Option.bind_some]
          cases h5 : oC (hCn k) p4.2 with
          | none =>
            rw [stS_no h5] at e5
            subst e5 e6 e7 e8 e9
            exact ⟨rfl, fun p hp => by cases hp⟩
          | some p5 =>
            rw [stS_at h5] at e5
            have a5 := stOk_at h5 v5
            subst e5
            simp only [Option.bind_some]
            cases h6 : oO (hO k) p5.2 with
            | none =>
              rw [stS_no h6] at e6
              subst e6 e7 e8 e9
              exact ⟨rfl, fun p hp => by cases hp⟩
            | some p6 =>
              rw [stS_at h6] at e6
              have a6 := stOk_at h6 v6
              subst e6
              simp only [Option.bind_some]
              cases h7 : oN (hTk k) p6.2 with
              | none =>
                rw [stS_no h7] at e7
                subst e7 e8 e9
                exact ⟨rfl, fun p hp => by cases hp⟩
              | some p7 =>
                rw [stS_at h7] at e7
                have a7 := stOk_at h7 v7
                subst e7
                simp only [Option.bind_some]
                cases h8 : oS (hM k) p7.2 with
                | none =>
                  rw [stS_no h8] at e8
                  subst e8 e9
                  exact ⟨rfl, fun p hp => by cases hp⟩
                | some p8 =>
                  rw [stS_at h8] at e8
                  have a8 := stOk_at h8 v8
                  subst e8
                  simp only [Option.bind_some]
                  cases h9 : oS (hTi k) p8.2 with
                  | none =>
                    rw [stS_no h9] at e9
                    subst e9
                    exact ⟨rfl, fun p hp => by cases hp⟩
                  | some p9 =>
                    rw [stS_at h9] at e9
                    have a9 := stOk_at h9 v9
                    subst e9
                    refine ⟨rfl, fun p hp => ?_⟩
                    simp only [Option.bind_some] at hp
                    injection hp with hp
                    rw [← hp, a1, a2, a3, a4, a5, a6, a7, a8, a9]
/-- The end of Decode. -/
def RawIs (k : Int) (l : List UInt8) (st : Option (List UInt8)) (q : Rq) : Prop := st = (rawAt k l).map Prod.snd ∧ ∀ p, rawAt k l = some p → q = p.1
theorem dec_dead {k : Int} {l : List UInt8} {q : Rq} (hk : isK k = true) (h : RawIs k l none q) : decQ k l = (rq0, 1) := by
  unfold decQ
  rw [if_neg (by rw [hk]; decide)]
  have h1 := h.1
  cases hr : rawAt k l with
  | none => rfl
  | some p => rw [hr] at h1; cases h1
theorem dec_left {k : Int} {l r : List UInt8} {q : Rq} (hk : isK k = true) (h : RawIs k l (some r) q) (hr : r ≠ []) : decQ k l = (rq0, 1) := by
  unfold decQ
  rw [if_neg (by rw [hk]; decide)]
  have h1 := h.1
  cases hq : rawAt k l with
  | none => rfl
  | some p =>
    rw [hq] at h1
    injection h1 with h1
    obtain ⟨p1, p2⟩ := p
    simp only at h1
    subst h1
    cases r with
    | nil => exact absurd rfl hr
    | cons => rfl
theorem dec_all {k : Int} {l : List UInt8} {q : Rq} (hk : isK k = true) (h : RawIs k l (some []) q) : decQ k l = if chk q = 0 then (q, 0) else (rq0, chk q) := by
  unfold decQ
  rw [if_neg (by rw [hk]; decide)]
  obtain ⟨h1, h2⟩ := h
  cases hq : rawAt k l with
  | none => rw [hq] at h1; cases h1
  | some p =>
    have h2 := h2 p hq
    rw [hq] at h1
    injection h1 with h1
    obtain ⟨p1, p2⟩ := p
    simp only at h1 h2
    subst h1 h2
    rfl
theorem dec_isk {k : Int} {l : List UInt8} (hk : isK k = false) : decQ k l = (rq0, 12) := by unfold decQ; rw [if_pos hk]

theorem RdR.num {w : World} {x g : Nat} {l : List UInt8} {st : Option (List UInt8)} (h : RdR w x g l st) (hl : l.length ≤ 1000000) :
    Calls Tryz.prog 56 #[.pointer (some ⟨g, 0, none⟩)] w fun e w' => ∃ v, e = .returned (.int .i64 v) ∧ NumOk st v ∧ RdR w' x g l (numS st) ∧ Chg (Two x g) w w' := by
  obtain ⟨bad, st', hb, hp, hs⟩ := h.o
  have hxg : x ≠ g := by obtain ⟨_, _, _, _, _, h2, _⟩ := hp.o; exact hb.ne_ h2 (by decide)
  refine (pNum_calls w g l st' hp hl).mono ?_
  rintro e w' ⟨v, rfl, hv, hp', hc⟩
  refine ⟨v, rfl, ?_, ⟨bad, numS st', hb.chg hc hxg, hp', ?_⟩, hc.mono (fun k hk => .inr hk)⟩
  · rcases hs with ⟨_, rfl⟩ | ⟨_, rfl⟩
    · exact hv
    · exact ⟨hv.1, hv.2.1, fun p hp => by cases hp⟩
  · rcases hs with ⟨h1, rfl⟩ | ⟨h1, rfl⟩
    · exact .inl ⟨h1, rfl⟩
    · exact .inr ⟨h1, rfl⟩
theorem RdR.c0 {w : World} {x g : Nat} {l : List UInt8} {st : Option (List UInt8)} (h : RdR w x g l st) : w.cell? ⟨x, 0, none⟩ = some (.pointer (some ⟨g, 0, none⟩)) := by
  obtain ⟨bad, st', hb, _⟩ := h.o
  exact hb.at_ 0 rfl
theorem RdR.off {w : World} {x g : Nat} {l : List UInt8} {st : Option (List UInt8)} (h : RdR w x g l st) {b : Nat} {t : TypeId} {cs : Array Value} (hb : Blk w b t cs) (h1 : 89 ≠ t) (h2 : 113 ≠ t) : ¬ Two x g b := by
  obtain ⟨bad, st', hx, hp, _⟩ := h.o
  obtain ⟨_, _, _, _, _, hg, _⟩ := hp.o
  rintro (e | e)
  · exact hx.ne_ hb h1 e.symm
  · exact hg.ne_ hb h2 e.symm
theorem below_two {w w' : World} {x g B : Nat} (h : Chg (Two x g) w w') (hx : B ≤ x) (hg : B ≤ g) (hB : B ≤ w.heap.size) : Below B w w' :=
  h.below (fun k hk => by rcases hk with h | h <;> omega) hB
theorem st_skipT (st : Option (List UInt8)) : st = stS (oT false) st ∧ stOk (oT false) st [] := by
  cases st with
  | none => exact ⟨rfl, fun p hp => by cases hp⟩
  | some l => exact ⟨rfl, fun p hp => by injection hp with hp; rw [← hp]⟩
theorem st_skipC (st : Option (List UInt8)) : st = stS (oC false) st ∧ stOk (oC false) st (0, 0) := by
  cases st with
  | none => exact ⟨rfl, fun p hp => by cases hp⟩
  | some l => exact ⟨rfl, fun p hp => by injection hp with hp; rw [← hp]⟩
theorem st_skipO (st : Option (List UInt8)) : st = stS (oO false) st ∧ stOk (oO false) st [] := by
  cases st with
  | none => exact ⟨rfl, fun p hp => by cases hp⟩
  | some l => exact ⟨rfl, fun p hp => by injection hp with hp; rw [← hp]⟩
theorem st_skipN (st : Option (List UInt8)) : st = stS (oN false) st ∧ stOk (oN false) st 0 := by
  cases st with
  | none => exact ⟨rfl, fun p hp => by cases hp⟩
  | some l => exact ⟨rfl, fun p hp => by injection hp with hp; rw [← hp]⟩
theorem st_skipS (st : Option (List UInt8)) : st = stS (oS false) st ∧ stOk (oS false) st 0 := by
  cases st with
  | none => exact ⟨rfl, fun p hp => by cases hp⟩
  | some l => exact ⟨rfl, fun p hp => by injection hp with hp; rw [← hp]⟩
end Go.Proofs.YtogjokofmfpmgaaGreatDoor
namespace Go.Proofs.YtogjokofmfpmgaaGreatDoor
open Go.RowKit

theorem set11 {w : World} {g : Nat} {t : TypeId} {c0 c1 c2 c3 c4 c5 c6 c7 c8 c9 c10 v0 v1 v2 v3 v4 v5 v6 v7 v8 v9 v10 : Value} (h : Blk w g t #[c0, c1, c2, c3, c4, c5, c6, c7, c8, c9, c10]) : Blk (((((((((((w.setCell ⟨g, 0, none⟩ v0).setCell ⟨g, 1, none⟩ v1).setCell ⟨g, 2, none⟩ v2).setCell ⟨g, 3, none⟩ v3).setCell ⟨g, 4, none⟩ v4).setCell ⟨g, 5, none⟩ v5).setCell ⟨g, 6, none⟩ v6).setCell ⟨g, 7, none⟩ v7).setCell ⟨g, 8, none⟩ v8).setCell ⟨g, 9, none⟩ v9).setCell ⟨g, 10, none⟩ v10) g t #[v0, v1, v2, v3, v4, v5, v6, v7, v8, v9, v10] := by
  have h0 : Blk (w.setCell ⟨g, 0, none⟩ v0) g t #[v0, c1, c2, c3, c4, c5, c6, c7, c8, c9, c10] := by simpa using h.set_ 0 v0
  have h1 : Blk ((w.setCell ⟨g, 0, none⟩ v0).setCell ⟨g, 1, none⟩ v1) g t #[v0, v1, c2, c3, c4, c5, c6, c7, c8, c9, c10] := by simpa using h0.set_ 1 v1
  have h2 : Blk (((w.setCell ⟨g, 0, none⟩ v0).setCell ⟨g, 1, none⟩ v1).setCell ⟨g, 2, none⟩ v2) g t #[v0, v1, v2, c3, c4, c5, c6, c7, c8, c9, c10] := by simpa using h1.set_ 2 v2
  have h3 : Blk ((((w.setCell ⟨g, 0, none⟩ v0).setCell ⟨g, 1, none⟩ v1).setCell ⟨g, 2, none⟩ v2).setCell ⟨g, 3, none⟩ v3) g t #[v0, v1, v2, v3, c4, c5, c6, c7, c8, c9, c10] := by simpa using h2.set_ 3 v3
  have h4 : Blk (((((w.setCell ⟨g, 0, none⟩ v0).setCell ⟨g, 1, none⟩ v1).setCell ⟨g, 2, none⟩ v2).setCell ⟨g, 3, none⟩ v3).setCell ⟨g, 4, none⟩ v4) g t #[v0, v1, v2, v3, v4, c5, c6, c7, c8, c9, c10] := by simpa using h3.set_ 4 v4
  have h5 : Blk ((((((w.setCell ⟨g, 0, none⟩ v0).setCell ⟨g, 1, none⟩ v1).setCell ⟨g, 2, none⟩ v2).setCell ⟨g, 3, none⟩ v3).setCell ⟨g, 4, none⟩ v4).setCell ⟨g, 5, none⟩ v5) g t #[v0, v1, v2, v3, v4, v5, c6, c7, c8, c9, c10] := by simpa using h4.set_ 5 v5
  have h6 : Blk (((((((w.setCell ⟨g, 0, none⟩ v0).setCell ⟨g, 1, none⟩ v1).setCell ⟨g, 2, none⟩ v2).setCell ⟨g, 3, none⟩ v3).setCell ⟨g, 4, none⟩ v4).setCell ⟨g, 5, none⟩ v5).setCell ⟨g, 6, none⟩ v6) g t #[v0, v1, v2, v3, v4, v5, v6, c7, c8, c9, c10] := by simpa using h5.set_ 6 v6
  have h7 : Blk ((((((((w.setCell ⟨g, 0, none⟩ v0).setCell ⟨g, 1, none⟩ v1).setCell ⟨g, 2, none⟩ v2).setCell ⟨g, 3, none⟩ v3).setCell ⟨g, 4, none⟩ v4).setCell ⟨g, 5, none⟩ v5).setCell ⟨g, 6, none⟩ v6).setCell ⟨g, 7, none⟩ v7) g t #[v0, v1, v2, v3, v4, v5, v6, v7, c8, c9, c10] := by simpa using h6.set_ 7 v7
  have h8 : Blk (((((((((w.setCell ⟨g, 0, none⟩ v0).setCell ⟨g, 1, none⟩ v1).setCell ⟨g, 2, none⟩ v2).setCell ⟨g, 3, none⟩ v3).setCell ⟨g, 4, none⟩ v4).setCell ⟨g, 5, none⟩ v5).setCell ⟨g, 6, none⟩ v6).setCell ⟨g, 7, none⟩ v7).setCell ⟨g, 8, none⟩ v8) g t #[v0, v1, v2, v3, v4, v5, v6, v7, v8, c9, c10] := by simpa using h7.set_ 8 v8
  have h9 : Blk ((((((((((w.setCell ⟨g, 0, none⟩ v0).setCell ⟨g, 1, none⟩ v1).setCell ⟨g, 2, none⟩ v2).setCell ⟨g, 3, none⟩ v3).setCell ⟨g, 4, none⟩ v4).setCell ⟨g, 5, none⟩ v5).setCell ⟨g, 6, none⟩ v6).setCell ⟨g, 7, none⟩ v7).setCell ⟨g, 8, none⟩ v8).setCell ⟨g, 9, none⟩ v9) g t #[v0, v1, v2, v3, v4, v5, v6, v7, v8, v9, c10] := by simpa using h8.set_ 9 v9
  have h10 : Blk (((((((((((w.setCell ⟨g, 0, none⟩ v0).setCell ⟨g, 1, none⟩ v1).setCell ⟨g, 2, none⟩ v2).setCell ⟨g, 3, none⟩ v3).setCell ⟨g, 4, none⟩ v4).setCell ⟨g, 5, none⟩ v5).setCell ⟨g, 6, none⟩ v6).setCell ⟨g, 7, none⟩ v7).setCell ⟨g, 8, none⟩ v8).setCell ⟨g, 9, none⟩ v9).setCell ⟨g, 10, none⟩ v10) g t #[v0, v1, v2, v3, v4, v5, v6, v7, v8, v9, v10] := by simpa using h9.set_ 10 v10
  exact h10
theorem bel11 {a w : World} {g : Nat} {v0 v1 v2 v3 v4 v5 v6 v7 v8 v9 v10 : Value} (h : Below g a w) : Below g a (((((((((((w.setCell ⟨g, 0, none⟩ v0).setCell ⟨g, 1, none⟩ v1).setCell ⟨g, 2, none⟩ v2).setCell ⟨g, 3, none⟩ v3).setCell ⟨g, 4, none⟩ v4).setCell ⟨g, 5, none⟩ v5).setCell ⟨g, 6, none⟩ v6).setCell ⟨g, 7, none⟩ v7).setCell ⟨g, 8, none⟩ v8).setCell ⟨g, 9, none⟩ v9).setCell ⟨g, 10, none⟩ v10) := (((((((((((h.setCell (p := ⟨g, 0, none⟩) (Nat.le_refl _) v0).setCell (p := ⟨g, 1, none⟩) (Nat.le_refl _) v1).setCell (p := ⟨g, 2, none⟩) (Nat.le_refl _) v2).setCell (p := ⟨g, 3, none⟩) (Nat.le_refl _) v3).setCell (p := ⟨g, 4, none⟩) (Nat.le_refl _) v4).setCell (p := ⟨g, 5, none⟩) (Nat.le_refl _) v5).setCell (p := ⟨g, 6, none⟩) (Nat.le_refl _) v6).setCell (p := ⟨g, 7, none⟩) (Nat.le_refl _) v7).setCell (p := ⟨g, 8, none⟩) (Nat.le_refl _) v8).setCell (p := ⟨g, 9, none⟩) (Nat.le_refl _) v9).setCell (p := ⟨g, 10, none⟩) (Nat.le_refl _) v10)
set_option maxRecDepth 100000 in
theorem res_dec {tmps : Array Value} {w : World} {g : Nat} {v0 v1 v2 v3 v4 v5 v6 v7 v8 v9 v10 : Value} (hp : tmps.getD 4 undef = .pointer (some ⟨g, 0, none⟩)) (hb : Blk w g 26 #[v0, v1, v2, v3, v4, v5, v6, v7, v8, v9, v10]) :
    (results Tryz.f17 tmps).run Tryz.prog w = .ok (.tuple #[.agg #[v0, v1, v2, v3, v4, v5, v6, v7, v8, v9, v10], tmps.getD 5 undef]) w := res_cell rfl tmps w g 26 _ (0, 0) _ hp hb rfl rfl rfl
/-- What Decode hands back. -/
structure DecR (w : World) (k : Int) (l : List UInt8) (e : Ending) (w' : World) : Prop where
  o : ∃ (A : Option Addr) (c : Nat), e = .returned (.tuple #[reqV (decQ k l).1 A c, .int .i64 (decQ k l).2]) ∧ Row w' (From w.heap.size) 43 5 A (decQ k l).1.ops.length c (opsE (decQ k l).1.ops) ∧ Below w.heap.size w w'
theorem decEq {k x : Int} {l : List UInt8} (h : decQ k l = (rq0, x)) : Ending.returned (.tuple #[reqV (decQ k l).1 none 0, .int .i64 (decQ k l).2]) = Ending.returned (.tuple #[.agg #[.int .i64 0, .string ⟨#[]⟩, .string ⟨#[]⟩, .string ⟨#[]⟩, .string ⟨#[]⟩, .int .i64 0, .int .i64 0, .slice none 0 0, .int .i64 0, .int .i64 0, .int .i64 0], .int .i64 x]) := by
  rw [h]; rfl
theorem decOk {k : Int} {l : List UInt8} {q : Rq} {A : Option Addr} {n c : Nat} {v : Value} (h : decQ k l = (q, 0)) (hn : n = q.ops.length) (hv : v = .agg #[.int .i64 q.k, .string (bs q.tn), .string (bs q.col), .string (bs q.uid), .string (bs q.card), .int .i64 q.ck, .int .i64 q.cv, .slice A n c, .int .i64 q.tok, .int .i64 q.most, .int .i64 q.ticks]) : Ending.returned (.tuple #[v, .int .i64 0]) = Ending.returned (.tuple #[reqV (decQ k l).1 A c, .int .i64 (decQ k l).2]) := by
  rw [h, hv, hn]; rfl

end Go.Proofs.YtogjokofmfpmgaaGreatDoor
namespace Go.Proofs.YtogjokofmfpmgaaGreatDoor
open Go.RowKit

def turnE (t : Tn) (A : Option Addr) (c : Nat) : List Value := [.int .i64 t.what, .int .i64 t.seq, .int .i64 t.k] ++ reqE t.q A c ++ [.int .i64 t.e]
def turnV (t : Tn) (A : Option Addr) (c : Nat) : Value := .agg (turnE t A c).toArray
theorem set15 {w : World} {g : Nat} {t : TypeId} {c0 c1 c2 c3 c4 c5 c6 c7 c8 c9 c10 c11 c12 c13 c14 v0 v1 v2 v3 v4 v5 v6 v7 v8 v9 v10 v11 v12 v13 v14 : Value} (h : Blk w g t #[c0, c1, c2, c3, c4, c5, c6, c7, c8, c9, c10, c11, c12, c13, c14]) : Blk (((((((((((((((w.setCell ⟨g, 0, none⟩ v0).setCell ⟨g, 1, none⟩ v1).setCell ⟨g, 2, none⟩ v2).setCell ⟨g, 3, none⟩ v3).setCell ⟨g, 4, none⟩ v4).setCell ⟨g, 5, none⟩ v5).setCell ⟨g, 6, none⟩ v6).setCell ⟨g, 7, none⟩ v7).setCell ⟨g, 8, none⟩ v8).setCell ⟨g, 9, none⟩ v9).setCell ⟨g, 10, none⟩ v10).setCell ⟨g, 11, none⟩ v11).setCell ⟨g, 12, none⟩ v12).setCell ⟨g, 13, none⟩ v13).setCell ⟨g, 14, none⟩ v14) g t #[v0, v1, v2, v3, v4, v5, v6, v7, v8, v9, v10, v11, v12, v13, v14] := by
  have h0 : Blk (w.setCell ⟨g, 0, none⟩ v0) g t #[v0, c1, c2, c3, c4, c5, c6, c7, c8, c9, c10, c11, c12, c13, c14] := by simpa using h.set_ 0 v0
  have h1 : Blk ((w.setCell ⟨g, 0, none⟩ v0).setCell ⟨g, 1, none⟩ v1) g t #[v0, v1, c2, c3, c4, c5, c6, c7, c8, c9, c10, c11, c12, c13, c14] := by simpa using h0.set_ 1 v1
  have h2 : Blk (((w.setCell ⟨g, 0, none⟩ v0).setCell ⟨g, 1, none⟩ v1).setCell ⟨g, 2, none⟩ v2) g t #[v0, v1, v2, c3, c4, c5, c6, c7, c8, c9, c10, c11, c12, c13, c14] := by simpa using h1.set_ 2 v2
  have h3 : Blk ((((w.setCell ⟨g, 0, none⟩ v0).setCell ⟨g, 1, none⟩ v1).setCell ⟨g, 2, none⟩ v2).setCell ⟨g, 3, none⟩ v3) g t #[v0, v1, v2, v3, c4, c5, c6, c7, c8, c9, c10, c11, c12, c13, c14] := by simpa using h2.set_ 3 v3
  have h4 : Blk (((((w.setCell ⟨g, 0, none⟩ v0).setCell ⟨g, 1, none⟩ v1).setCell ⟨g, 2, none⟩ v2).setCell ⟨g, 3, none⟩ v3).setCell ⟨g, 4, none⟩ v4) g t #[v0, v1, v2, v3, v4, c5, c6, c7, c8, c9, c10, c11, c12, c13, c14] := by simpa using h3.set_ 4 v4
  have h5 : Blk ((((((w.setCell ⟨g, 0, none⟩ v0).setCell ⟨g, 1, none⟩ v1).setCell ⟨g, 2, none⟩ v2).setCell ⟨g, 3, none⟩ v3).setCell ⟨g, 4, none⟩ v4).setCell ⟨g, 5, none⟩ v5) g t #[v0, v1, v2, v3, v4, v5, c6, c7, c8, c9, c10, c11, c12, c13, c14] := by simpa using h4.set_ 5 v5
  have h6 : Blk (((((((w.setCell ⟨g, 0, none⟩ v0).setCell ⟨g, 1, none⟩ v1).setCell ⟨g, 2, none⟩ v2).setCell ⟨g, 3, none⟩ v3).setCell ⟨g, 4, none⟩ v4).setCell ⟨g, 5, none⟩ v5).setCell ⟨g, 6, none⟩ v6) g t #[v0, v1, v2, v3, v4, v5, v6, c7, c8, c9, c10, c11, c12, c13, c14] := by simpa using h5.set_ 6 v6
  have h7 : Blk ((((((((w.setCell ⟨g, 0, none⟩ v0).setCell ⟨g, 1, none⟩ v1).setCell ⟨g, 2, none⟩ v2).setCell ⟨g, 3, none⟩ v3).setCell ⟨g, 4, none⟩ v4).setCell ⟨g, 5, none⟩ v5).setCell ⟨g, 6, none⟩ v6).setCell ⟨g, 7, none⟩ v7) g t #[v0, v1, v2, v3, v4, v5, v6, v7, c8, c9, c10, c11, c12, c13, c14] := by simpa using h6.set_ 7 v7
  have h8 : Blk (((((((((w.setCell ⟨g, 0, none⟩ v0).setCell ⟨g, 1, none⟩ v1).setCell ⟨g, 2, none⟩ v2).setCell ⟨g, 3, none⟩ v3).setCell ⟨g, 4, none⟩ v4).setCell ⟨g, 5, none⟩ v5).setCell ⟨g, 6, none⟩ v6).setCell ⟨g, 7, none⟩ v7).setCell ⟨g, 8, none⟩ v8) g t #[v0, v1, v2, v3, v4, v5, v6, v7, v8, c9, c10, c11, c12, c13, c14] := by simpa using h7.set_ 8 v8
  have h9 : Blk ((((((((((w.setCell ⟨g, 0, none⟩ v0).setCell ⟨g, 1, none⟩ v1).setCell ⟨g, 2, none⟩ v2).setCell ⟨g, 3, none⟩ v3).setCell ⟨g, 4, none⟩ v4).setCell ⟨g, 5, none⟩ v5).setCell ⟨g, 6, none⟩ v6).setCell ⟨g, 7, none⟩ v7).setCell ⟨g, 8, none⟩ v8).setCell ⟨g, 9, none⟩ v9) g t #[v0, v1, v2, v3, v4, v5, v6, v7, v8, v9, c10, c11, c12, c13, c14] := by simpa using h8.set_ 9 v9
  have h10 : Blk (((((((((((w.setCell ⟨g, 0, none⟩ v0).setCell ⟨g, 1, none⟩ v1).setCell ⟨g, 2, none⟩ v2).setCell ⟨g, 3, none⟩ v3).setCell ⟨g, 4, none⟩ v4).setCell ⟨g, 5, none⟩ v5).setCell ⟨g, 6, none⟩ v6).setCell ⟨g, 7, none⟩ v7).setCell ⟨g, 8, none⟩ v8).setCell ⟨g, 9, none⟩ v9).setCell ⟨g, 10, none⟩ v10) g t #[v0, v1, v2, v3, v4, v5, v6, v7, v8, v9, v10, c11, c12, c13, c14] := by simpa using h9.set_ 10 v10
  have h11 : Blk ((((((((((((w.setCell ⟨g, 0, none⟩ v0).setCell ⟨g, 1, none⟩ v1).setCell ⟨g, 2, none⟩ v2).setCell ⟨g, 3, none⟩ v3).setCell ⟨g, 4, none⟩ v4).setCell ⟨g, 5, none⟩ v5).setCell ⟨g, 6, none⟩ v6).setCell ⟨g, 7, none⟩ v7).setCell ⟨g, 8, none⟩ v8).setCell ⟨g, 9, none⟩ v9).setCell ⟨g, 10, none⟩ v10).setCell ⟨g, 11, none⟩ v11) g t #[v0, v1, v2, v3, v4, v5, v6, v7, v8, v9, v10, v11, c12, c13, c14] := by simpa using h10.set_ 11 v11
  have h12 : Blk (((((((((((((w.setCell ⟨g, 0, none⟩ v0).setCell ⟨g, 1, none⟩ v1).setCell ⟨g, 2, none⟩ v2).setCell ⟨g, 3, none⟩ v3).setCell ⟨g, 4, none⟩ v4).setCell ⟨g, 5, none⟩ v5).setCell ⟨g, 6, none⟩ v6).setCell ⟨g, 7, none⟩ v7).setCell ⟨g, 8, none⟩ v8).setCell ⟨g, 9, none⟩ v9).setCell ⟨g, 10, none⟩ v10).setCell ⟨g, 11, none⟩ v11).setCell ⟨g, 12, none⟩ v12) g t #[v0, v1, v2, v3, v4, v5, v6, v7, v8, v9, v10, v11, v12, c13, c14] := by simpa using h11.set_ 12 v12
  have h13 : Blk ((((((((((((((w.setCell ⟨g, 0, none⟩ v0).setCell ⟨g, 1, none⟩ v1).setCell ⟨g, 2, none⟩ v2).setCell ⟨g, 3, none⟩ v3).setCell ⟨g, 4, none⟩ v4).setCell ⟨g, 5, none⟩ v5).setCell ⟨g, 6, none⟩ v6).setCell ⟨g, 7, none⟩ v7).setCell ⟨g, 8, none⟩ v8).setCell ⟨g, 9, none⟩ v9).setCell ⟨g, 10, none⟩ v10).setCell ⟨g, 11, none⟩ v11).setCell ⟨g, 12, none⟩ v12).setCell ⟨g, 13, none⟩ v13) g t #[v0, v1, v2, v3, v4, v5, v6, v7, v8, v9, v10, v11, v12, v13, c14] := by simpa using h12.set_ 13 v13
  have h14 : Blk (((((((((((((((w.setCell ⟨g, 0, none⟩ v0).setCell ⟨g, 1, none⟩ v1).setCell ⟨g, 2, none⟩ v2).setCell ⟨g, 3, none⟩ v3).setCell ⟨g, 4, none⟩ v4).setCell ⟨g, 5, none⟩ v5).setCell ⟨g, 6, none⟩ v6).setCell ⟨g, 7, none⟩ v7).setCell ⟨g, 8, none⟩ v8).setCell ⟨g, 9, none⟩ v9).setCell ⟨g, 10, none⟩ v10).setCell ⟨g, 11, none⟩ v11).setCell ⟨g, 12, none⟩ v12).setCell ⟨g, 13, none⟩ v13).setCell ⟨g, 14, none⟩ v14) g t #[v0, v1, v2, v3, v4, v5, v6, v7, v8, v9, v10, v11, v12, v13, v14] := by simpa using h13.set_ 14 v14
  exact h14
theorem bel15 {a w : World} {g : Nat} {v0 v1 v2 v3 v4 v5 v6 v7 v8 v9 v10 v11 v12 v13 v14 : Value} (h : Below g a w) : Below g a (((((((((((((((w.setCell ⟨g, 0, none⟩ v0).setCell ⟨g, 1, none⟩ v1).setCell ⟨g, 2, none⟩ v2).setCell ⟨g, 3, none⟩ v3).setCell ⟨g, 4, none⟩ v4).setCell ⟨g, 5, none⟩ v5).setCell ⟨g, 6, none⟩ v6).setCell ⟨g, 7, none⟩ v7).setCell ⟨g, 8, none⟩ v8).setCell ⟨g, 9, none⟩ v9).setCell ⟨g, 10, none⟩ v10).setCell ⟨g, 11, none⟩ v11).setCell ⟨g, 12, none⟩ v12).setCell ⟨g, 13, none⟩ v13).setCell ⟨g, 14, none⟩ v14) := (((((((((((((((h.setCell (Nat.le_refl _) _).setCell (Nat.le_refl _) _).setCell (Nat.le_refl _) _).setCell (Nat.le_refl _) _).setCell (Nat.le_refl _) _).setCell (Nat.le_refl _) _).setCell (Nat.le_refl _) _).setCell (Nat.le_refl _) _).setCell (Nat.le_refl _) _).setCell (Nat.le_refl _) _).setCell (Nat.le_refl _) _).setCell (Nat.le_refl _) _).setCell (Nat.le_refl _) _).setCell (Nat.le_refl _) _).setCell (Nat.le_refl _) _)
theorem far15 {w : World} {g h : Nat} {t : TypeId} {cs : Array Value} {v0 v1 v2 v3 v4 v5 v6 v7 v8 v9 v10 v11 v12 v13 v14 : Value} (k : Blk w h t cs) (hn : h ≠ g) : Blk (((((((((((((((w.setCell ⟨g, 0, none⟩ v0).setCell ⟨g, 1, none⟩ v1).setCell ⟨g, 2, none⟩ v2).setCell ⟨g, 3, none⟩ v3).setCell ⟨g, 4, none⟩ v4).setCell ⟨g, 5, none⟩ v5).setCell ⟨g, 6, none⟩ v6).setCell ⟨g, 7, none⟩ v7).setCell ⟨g, 8, none⟩ v8).setCell ⟨g, 9, none⟩ v9).setCell ⟨g, 10, none⟩ v10).setCell ⟨g, 11, none⟩ v11).setCell ⟨g, 12, none⟩ v12).setCell ⟨g, 13, none⟩ v13).setCell ⟨g, 14, none⟩ v14) h t cs := (((((((((((((((k.far hn _).far hn _).far hn _).far hn _).far hn _).far hn _).far hn _).far hn _).far hn _).far hn _).far hn _).far hn _).far hn _).far hn _).far hn _)
theorem chg15 {S : Nat → Prop} {a w : World} {g : Nat} {v0 v1 v2 v3 v4 v5 v6 v7 v8 v9 v10 v11 v12 v13 v14 : Value} (k : Chg S a w) (hn : S g ∨ a.heap.size ≤ g) : Chg S a (((((((((((((((w.setCell ⟨g, 0, none⟩ v0).setCell ⟨g, 1, none⟩ v1).setCell ⟨g, 2, none⟩ v2).setCell ⟨g, 3, none⟩ v3).setCell ⟨g, 4, none⟩ v4).setCell ⟨g, 5, none⟩ v5).setCell ⟨g, 6, none⟩ v6).setCell ⟨g, 7, none⟩ v7).setCell ⟨g, 8, none⟩ v8).setCell ⟨g, 9, none⟩ v9).setCell ⟨g, 10, none⟩ v10).setCell ⟨g, 11, none⟩ v11).setCell ⟨g, 12, none⟩ v12).setCell ⟨g, 13, none⟩ v13).setCell ⟨g, 14, none⟩ v14) := (((((((((((((((k.setCell hn _).setCell hn _).setCell hn _).setCell hn _).setCell hn _).setCell hn _).setCell hn _).setCell hn _).setCell hn _).setCell hn _).setCell hn _).setCell hn _).setCell hn _).setCell hn _).setCell hn _)
theorem Chg.two {a b : Nat} {w w' : World} (k : Chg (One b) w w') : Chg (Two a b) w w' := k.mono fun _ h => .inr h

set_option maxRecDepth 100000 in
set_option maxHeartbeats 4000000 in
theorem next_idle (w : World) (g p : Nat) (s : Ss) (h : SesR w g p s) (hb : s.buf.length ≤ 1000000) (x : Int) (hx : lookW s = x) (hx2 : x = 0 ∨ x = 4) :
    Calls Tryz.prog 34 #[.pointer (some ⟨g, 0, none⟩)] w fun e w' => e = .returned (turnV (tn0 x) none 0) ∧ Below w.heap.size w w' := by
  obtain ⟨w0, hw0⟩ : ∃ w0, w0 = w.alloc (.cells #[.int .i64 0, .int .i64 0, .int .i64 0, .int .i64 0, .string ⟨#[]⟩, .string ⟨#[]⟩, .string ⟨#[]⟩, .string ⟨#[]⟩, .int .i64 0, .int .i64 0, .slice none 0 0, .int .i64 0, .int .i64 0, .int .i64 0, .int .i64 0] 61) := ⟨_, rfl⟩
  have HZ0 := hd (show Blk w0 w.heap.size 61 #[.int .i64 0, .int .i64 0, .int .i64 0, .int .i64 0, .string ⟨#[]⟩, .string ⟨#[]⟩, .string ⟨#[]⟩, .string ⟨#[]⟩, .int .i64 0, .int .i64 0, .slice none 0 0, .int .i64 0, .int .i64 0, .int .i64 0, .int .i64 0] by rw [hw0]; exact Blk.new _ _ _)
  have HB0 := hd (show Below w.heap.size w w0 by rw [hw0]; exact (Below.refl _ w).alloc (Nat.le_refl _) _)
  have C1 := look_whole w0 g p s ⟨by rw [hw0]; exact h.b.alloc _, by rw [hw0]; exact h.p.alloc _⟩ hb
  have hv : lookV s = .tuple #[.int .i64 x, .agg #[.int .i64 0, .string ⟨#[]⟩], .int .i64 0, .int .i64 0] := by
    unfold lookV
    rw [hx, if_neg (by omega), if_neg (by omega)]
  rw [hv] at C1
  replace C1 := hd C1
  have HW0 := hd hw0
  clear hw0 h hb hx hv
  go_enter Tryz.func34, Tryz.ntmps34
  go_upto_region 1 with (fail)
  rw [← HW0.o]
  go_upto_region 2 with (go_at_call 78; refine C1.o.mono ?_; rintro e w1 ⟨rfl, hb1⟩; have HB1 := hd (HB0.o.trans (hb1.mono HB0.o.size)); have HZ1 := hd (HZ0.o.below hb1 HZ0.o.lt); clear hb1)
  obtain ⟨w2, hw2⟩ : ∃ w2, w2 = w1.alloc (.cells #[.int .i64 0, .string ⟨#[]⟩] 75) := ⟨_, rfl⟩
  rw [← hw2]
  have HZ2 := hd (show Blk w2 w.heap.size 61 #[.int .i64 0, .int .i64 0, .int .i64 0, .int .i64 0, .string ⟨#[]⟩, .string ⟨#[]⟩, .string ⟨#[]⟩, .string ⟨#[]⟩, .int .i64 0, .int .i64 0, .slice none 0 0, .int .i64 0, .int .i64 0, .int .i64 0, .int .i64 0] by rw [hw2]; exact HZ1.o.alloc _)
  have HB2 := hd (show Below w.heap.size w w2 by rw [hw2]; exact HB1.o.alloc HB1.o.size _)
  have z0 := HZ2.o.at_ 0 rfl
  have z1 := HZ2.o.at_ 1 rfl
  have z2 := HZ2.o.at_ 2 rfl
  have z3 := HZ2.o.at_ 3 rfl
  have z4 := HZ2.o.at_ 4 rfl
  have z5 := HZ2.o.at_ 5 rfl
  have z6 := HZ2.o.at_ 6 rfl
  have z7 := HZ2.o.at_ 7 rfl
  have z8 := HZ2.o.at_ 8 rfl
  have z9 := HZ2.o.at_ 9 rfl
  have z10 := HZ2.o.at_ 10 rfl
  have z11 := HZ2.o.at_ 11 rfl
  have z12 := HZ2.o.at_ 12 rfl
  have z13 := HZ2.o.at_ 13 rfl
  have z14 := HZ2.o.at_ 14 rfl
  have f0 := HZ2.o.frozen 0
  have f1 := HZ2.o.frozen 1
  have f2 := HZ2.o.frozen 2
  have f3 := HZ2.o.frozen 3
  have f4 := HZ2.o.frozen 4
  have f5 := HZ2.o.frozen 5
  have f6 := HZ2.o.frozen 6
  have f7 := HZ2.o.frozen 7
  have f8 := HZ2.o.frozen 8
  have f9 := HZ2.o.frozen 9
  have f10 := HZ2.o.frozen 10
  have f11 := HZ2.o.frozen 11
  have f12 := HZ2.o.frozen 12
  have f13 := HZ2.o.frozen 13
  have f14 := HZ2.o.frozen 14
  clear hw2
  rcases hx2 with rfl | rfl
  all_goals
    go_wp2_with fail
    (try simp only [Exit.inBlock, Exit.then])
    refine bodyPost_ret (results_cell_row rfl _ _ _ _ _ _ _ rfl (set15 HZ2.o) rfl rfl rfl) rfl ?_
    exact ⟨rfl, bel15 HB2.o⟩

set_option maxRecDepth 100000 in
set_option maxHeartbeats 4000000 in
theorem next_brk (w : World) (g p : Nat) (s : Ss) (h : SesR w g p s) (hb : s.buf.length ≤ 1000000) (hx : lookW s = 3) (hq : 0 ≤ s.seq ∧ s.seq ≤ 1000000) :
    Calls Tryz.prog 34 #[.pointer (some ⟨g, 0, none⟩)] w fun e w' => e = .returned (turnV ⟨3, s.seq + 1, 0, rq0, frE s.buf⟩ none 0) ∧ SesR w' g p { s with seq := s.seq + 1, broken := true } ∧ Chg (Two g p) w w' := by
  obtain ⟨w0, hw0⟩ : ∃ w0, w0 = w.alloc (.cells #[.int .i64 0, .int .i64 0, .int .i64 0, .int .i64 0, .string ⟨#[]⟩, .string ⟨#[]⟩, .string ⟨#[]⟩, .string ⟨#[]⟩, .int .i64 0, .int .i64 0, .slice none 0 0, .int .i64 0, .int .i64 0, .int .i64 0, .int .i64 0] 61) := ⟨_, rfl⟩
  have HZ0 := hd (show Blk w0 w.heap.size 61 #[.int .i64 0, .int .i64 0, .int .i64 0, .int .i64 0, .string ⟨#[]⟩, .string ⟨#[]⟩, .string ⟨#[]⟩, .string ⟨#[]⟩, .int .i64 0, .int .i64 0, .slice none 0 0, .int .i64 0, .int .i64 0, .int .i64 0, .int .i64 0] by rw [hw0]; exact Blk.new _ _ _)
  have HB0 := hd (show Below w.heap.size w w0 by rw [hw0]; exact (Below.refl _ w).alloc (Nat.le_refl _) _)
  have C1 := look_whole w0 g p s ⟨by rw [hw0]; exact h.b.alloc _, by rw [hw0]; exact h.p.alloc _⟩ hb
  obtain ⟨x, hxe⟩ : ∃ x, frE s.buf = x := ⟨_, rfl⟩
  have hv : lookV s = .tuple #[.int .i64 3, .agg #[.int .i64 0, .string ⟨#[]⟩], .int .i64 0, .int .i64 x] := by
    unfold lookV
    rw [hx, if_neg (by decide), if_pos rfl, hxe]
  rw [hv] at C1
  rw [hxe]
  replace C1 := hd C1
  have HW0 := hd hw0
  have HH := hd h
  have hn : s.seq ≤ 1000000 ∧ 0 ≤ s.seq := ⟨hq.2, hq.1⟩
  have hwr : IntKind.i64.wrap (s.seq + 1) = s.seq + 1 := by rw [IntKind.wrap_i64]; omega
  have hgw : g ≠ w.heap.size := Nat.ne_of_lt h.b.lt
  have hpw : p ≠ w.heap.size := Nat.ne_of_lt h.p.lt
  clear hw0 h hb hx hv hxe hq hn
  go_enter Tryz.func34, Tryz.ntmps34
  go_upto_region 1 with (fail)
  rw [← HW0.o]
  go_upto_region 2 with (go_at_call 78; refine C1.o.mono ?_; rintro e w1 ⟨rfl, hb1⟩; have HB1 := hd (HB0.o.trans (hb1.mono HB0.o.size)); have HZ1 := hd (HZ0.o.below hb1 HZ0.o.lt); clear hb1)
  obtain ⟨w2, hw2⟩ : ∃ w2, w2 = w1.alloc (.cells #[.int .i64 0, .string ⟨#[]⟩] 75) := ⟨_, rfl⟩
  rw [← hw2]
  have HZ2 := hd (show Blk w2 w.heap.size 61 #[.int .i64 0, .int .i64 0, .int .i64 0, .int .i64 0, .string ⟨#[]⟩, .string ⟨#[]⟩, .string ⟨#[]⟩, .string ⟨#[]⟩, .int .i64 0, .int .i64 0, .slice none 0 0, .int .i64 0, .int .i64 0, .int .i64 0, .int .i64 0] by rw [hw2]; exact HZ1.o.alloc _)
  have HB2 := hd (show Below w.heap.size w w2 by rw [hw2]; exact HB1.o.alloc HB1.o.size _)
  have hs2 := HH.o.b.below HB2.o HH.o.b.lt
  have HP2 := hd (HH.o.p.below HB2.o HH.o.p.lt)
  have q2 := hs2.at_ 2 (v := .int .i64 s.seq) rfl
  have r2 := hs2.frozen 2
  have HS2 := hd hs2
  clear hs2 hw2
  go_upto_region 5 with (fail)
  obtain ⟨w3, hw3⟩ : ∃ w3, w3 = w2.setCell ⟨g, 2, none⟩ (.int .i64 (s.seq + 1)) := ⟨_, rfl⟩
  rw [← hw3]
  have HZ3 := hd (show Blk w3 w.heap.size 61 #[.int .i64 0, .int .i64 0, .int .i64 0, .int .i64 0, .string ⟨#[]⟩, .string ⟨#[]⟩, .string ⟨#[]⟩, .string ⟨#[]⟩, .int .i64 0, .int .i64 0, .slice none 0 0, .int .i64 0, .int .i64 0, .int .i64 0, .int .i64 0] by rw [hw3]; exact HZ2.o.far hgw.symm _)
  have hs3 : Blk w3 g 103 #[.pointer (some ⟨p, 0, none⟩), .string (bs s.tn), .int .i64 (s.seq + 1), .bool s.broken] := by rw [hw3]; simpa using HS2.o.set_ 2 (.int .i64 (s.seq + 1))
  have HP3 := hd (show Blk w3 p 123 (pipE s.room s.buf s.closed) by rw [hw3]; exact HP2.o.far (Ne.symm HH.o.ne) _)
  have HC3 := hd (show Chg (Two g p) w w3 by rw [hw3]; exact (Chg.of_below _ HB2.o).setCell (.inl (.inl rfl)) _)
  clear q2 r2 hw3
  have q2 := hs3.at_ 2 (v := .int .i64 (s.seq + 1)) rfl
  have HS3 := hd hs3
  clear hs3
  go_upto_region 6 with (fail)
  obtain ⟨w4, hw4⟩ : ∃ w4, w4 = w3.alloc (.cells #[.int .i64 3, .int .i64 (s.seq + 1), .int .i64 0, .int .i64 0, .string ⟨#[]⟩, .string ⟨#[]⟩, .string ⟨#[]⟩, .string ⟨#[]⟩, .int .i64 0, .int .i64 0, .slice none 0 0, .int .i64 0, .int .i64 0, .int .i64 0, .int .i64 x] 61) := ⟨_, rfl⟩
  rw [← hw4]
  have HT4 := hd (show Blk w4 w3.heap.size 61 #[.int .i64 3, .int .i64 (s.seq + 1), .int .i64 0, .int .i64 0, .string ⟨#[]⟩, .string ⟨#[]⟩, .string ⟨#[]⟩, .string ⟨#[]⟩, .int .i64 0, .int .i64 0, .slice none 0 0, .int .i64 0, .int .i64 0, .int .i64 0, .int .i64 x] by rw [hw4]; exact Blk.new _ _ _)
  have HZ4 := hd (show Blk w4 w.heap.size 61 #[.int .i64 0, .int .i64 0, .int .i64 0, .int .i64 0, .string ⟨#[]⟩, .string ⟨#[]⟩, .string ⟨#[]⟩, .string ⟨#[]⟩, .int .i64 0, .int .i64 0, .slice none 0 0, .int .i64 0, .int .i64 0, .int .i64 0, .int .i64 0] by rw [hw4]; exact HZ3.o.alloc _)
  have hs4 : Blk w4 g 103 #[.pointer (some ⟨p, 0, none⟩), .string (bs s.tn), .int .i64 (s.seq + 1), .bool s.broken] := by rw [hw4]; exact HS3.o.alloc _
  have HP4 := hd (show Blk w4 p 123 (pipE s.room s.buf s.closed) by rw [hw4]; exact HP3.o.alloc _)
  have HC4 := hd (show Chg (Two g p) w w4 by rw [hw4]; exact HC3.o.alloc _)
  have hTw : w3.heap.size ≠ w.heap.size := Nat.ne_of_gt HZ3.o.lt
  have hTg : w3.heap.size ≠ g := Nat.ne_of_gt HS3.o.lt
  clear hw4 q2
  have r3 := hs4.frozen 3
  have q3 := hs4.at_ 3 (v := .bool s.broken) rfl
  have HS4 := hd hs4
  clear hs4
  have y0 := HT4.o.at_ 0 rfl
  have y1 := HT4.o.at_ 1 rfl
  have y2 := HT4.o.at_ 2 rfl
  have y3 := HT4.o.at_ 3 rfl
  have y4 := HT4.o.at_ 4 rfl
  have y5 := HT4.o.at_ 5 rfl
  have y6 := HT4.o.at_ 6 rfl
  have y7 := HT4.o.at_ 7 rfl
  have y8 := HT4.o.at_ 8 rfl
  have y9 := HT4.o.at_ 9 rfl
  have y10 := HT4.o.at_ 10 rfl
  have y11 := HT4.o.at_ 11 rfl
  have y12 := HT4.o.at_ 12 rfl
  have y13 := HT4.o.at_ 13 rfl
  have y14 := HT4.o.at_ 14 rfl
  have z0 := HZ4.o.at_ 0 rfl
  have z1 := HZ4.o.at_ 1 rfl
  have z2 := HZ4.o.at_ 2 rfl
  have z3 := HZ4.o.at_ 3 rfl
  have z4 := HZ4.o.at_ 4 rfl
  have z5 := HZ4.o.at_ 5 rfl
  have z6 := HZ4.o.at_ 6 rfl
  have z7 := HZ4.o.at_ 7 rfl
  have z8 := HZ4.o.at_ 8 rfl
  have z9 := HZ4.o.at_ 9 rfl
  have z10 := HZ4.o.at_ 10 rfl
  have z11 := HZ4.o.at_ 11 rfl
  have z12 := HZ4.o.at_ 12 rfl
  have z13 := HZ4.o.at_ 13 rfl
  have z14 := HZ4.o.at_ 14 rfl
  have f0 := HZ4.o.frozen 0
  have f1 := HZ4.o.frozen 1
  have f2 := HZ4.o.frozen 2
  have f3 := HZ4.o.frozen 3
  have f4 := HZ4.o.frozen 4
  have f5 := HZ4.o.frozen 5
  have f6 := HZ4.o.frozen 6
  have f7 := HZ4.o.frozen 7
  have f8 := HZ4.o.frozen 8
  have f9 := HZ4.o.frozen 9
  have f10 := HZ4.o.frozen 10
  have f11 := HZ4.o.frozen 11
  have f12 := HZ4.o.frozen 12
  have f13 := HZ4.o.frozen 13
  have f14 := HZ4.o.frozen 14
  generalize w3.heap.size = T at *
  have hTg2 : g ≠ T := hTg.symm
  have hTw2 : w.heap.size ≠ T := hTw.symm
  have hwg : w.heap.size ≠ g := hgw.symm
  go_wp2_with fail
  (try simp only [Exit.inBlock, Exit.then])
  refine bodyPost_ret (results_cell_row rfl _ _ _ _ _ _ _ rfl (set15 (HZ4.o.far hgw.symm _)) rfl rfl rfl) rfl ?_
  refine ⟨rfl, ⟨far15 (by simpa using HS4.o.set_ 3 (.bool true)) hgw, far15 (HP4.o.far (Ne.symm HH.o.ne) _) hpw⟩, chg15 (HC4.o.setCell (.inl (.inl rfl)) _) (.inr (Nat.le_refl _))⟩
end Go.Proofs.YtogjokofmfpmgaaGreatDoor
