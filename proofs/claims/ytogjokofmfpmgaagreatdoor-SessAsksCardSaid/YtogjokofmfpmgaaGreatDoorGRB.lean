/-
  Requests: Encode.
-/
import Derived.Test.YtogjokofmfpmgaaGreatDoorGAO
import Derived.Test.YtogjokofmfpmgaaGreatDoorGRA
import Derived.Test.YtogjokofmfpmgaaGreatDoorGAJ
import Derived.Deep.CutRange
import Derived.Test.YtogjokofmfpmgaaGreatDoorGAA
import Derived.Test.YtogjokofmfpmgaaGreatDoorGAT
set_option linter.unusedVariables false
set_option linter.unusedSimpArgs false
namespace Go.Proofs.YtogjokofmfpmgaaGreatDoor
open Go.RowKit

set_option maxRecDepth 100000 in
set_option maxHeartbeats 8000000 in
theorem enc_in (k : Int) (tn col uid card : List UInt8) (ck cv : Int) (ops : List OpV) (tok most ticks : Int) (A : Option Addr) (c : Nat) (w : World) (ht : Tbs w) (hr : Rds w A ops.length 5 (opsE ops)) (hs : RqS ⟨k, tn, col, uid, card, ck, cv, ops, tok, most, ticks⟩) (hB : RqB ⟨k, tn, col, uid, card, ck, cv, ops, tok, most, ticks⟩) (h0 : chk ⟨k, tn, col, uid, card, ck, cv, ops, tok, most, ticks⟩ = 0) :
    Calls Tryz.prog 15 #[reqV ⟨k, tn, col, uid, card, ck, cv, ops, tok, most, ticks⟩ A c] w fun e w' => EncR w ⟨k, tn, col, uid, card, ck, cv, ops, tok, most, ticks⟩ e w' := by
  have hk := (chk_0 h0).1
  simp only at hk
  have HE := hd (EncH.of h0 hB)
  have hb8 := HE.o.ops8
  have C2 := fun W => show Calls Tryz.prog 42 #[.int .i64 k] W fun e w' => e = .returned (.agg #[.bool (hT k), .bool (hC k), .bool (hU k), .bool (hCd k), .bool (hCn k), .bool (hO k), .bool (hTk k), .bool (hM k), .bool (hTi k)]) ∧ Below W.heap.size W w' from fields_calls k hk W
  obtain ⟨h1, e1⟩ : ∃ h, hT k = h := ⟨_, rfl⟩
  obtain ⟨h2, e2⟩ : ∃ h, hC k = h := ⟨_, rfl⟩
  obtain ⟨h3, e3⟩ : ∃ h, hU k = h := ⟨_, rfl⟩
  obtain ⟨h4, e4⟩ : ∃ h, hCd k = h := ⟨_, rfl⟩
  obtain ⟨h5, e5⟩ : ∃ h, hCn k = h := ⟨_, rfl⟩
  obtain ⟨h6, e6⟩ : ∃ h, hO k = h := ⟨_, rfl⟩
  obtain ⟨h7, e7⟩ : ∃ h, hTk k = h := ⟨_, rfl⟩
  obtain ⟨h8, e8⟩ : ∃ h, hM k = h := ⟨_, rfl⟩
  obtain ⟨h9, e9⟩ : ∃ h, hTi k = h := ⟨_, rfl⟩
  rw [e1, e2, e3, e4, e5, e6, e7, e8, e9] at C2
  have HE1 := hd e1
  have HE2 := hd e2
  have HE3 := hd e3
  have HE4 := hd e4
  have HE5 := hd e5
  have HE6 := hd e6
  have HE7 := hd e7
  have HE8 := hd e8
  have HE9 := hd e9
  clear e1 e2 e3 e4 e5 e6 e7 e8 e9
  replace C2 := hd C2
  obtain ⟨n, hn⟩ : ∃ n, ops.length = n := ⟨_, rfl⟩
  have C1 := fun W (h : Below w.heap.size w W) => check_calls ⟨k, tn, col, uid, card, ck, cv, ops, tok, most, ticks⟩ A c W (ht.below h) (hr.below h) hs
  rw [h0] at C1
  unfold reqV reqE at *
  simp only at C1 hb8 ⊢
  rw [hn] at C1 hr hb8 ⊢
  have HNN := hd hn
  have HRD := hd hr
  have H0 := hd h0
  obtain ⟨Y, hY⟩ : ∃ Y, Y = w.alloc (.cells #[.int .i64 k, .string (bs tn), .string (bs col), .string (bs uid), .string (bs card), .int .i64 ck, .int .i64 cv, .slice A n c, .int .i64 tok, .int .i64 most, .int .i64 ticks] 26) := ⟨_, rfl⟩
  have HK := hd (show Blk Y w.heap.size 26 #[.int .i64 k, .string (bs tn), .string (bs col), .string (bs uid), .string (bs card), .int .i64 ck, .int .i64 cv, .slice A n c, .int .i64 tok, .int .i64 most, .int .i64 ticks] by rw [hY]; exact Blk.new _ _ _)
  have HBY := hd (show Below w.heap.size w Y by rw [hY]; exact (Below.refl _ w).alloc (Nat.le_refl _) _)
  have HYY := hd hY
  replace C1 := hd (C1 Y HBY.o)
  have y0 := HK.o.at_ 0 rfl
  have y1 := HK.o.at_ 1 rfl
  have y2 := HK.o.at_ 2 rfl
  have y3 := HK.o.at_ 3 rfl
  have y4 := HK.o.at_ 4 rfl
  have y5 := HK.o.at_ 5 rfl
  have y6 := HK.o.at_ 6 rfl
  have y7 := HK.o.at_ 7 rfl
  have y8 := HK.o.at_ 8 rfl
  have y9 := HK.o.at_ 9 rfl
  have y10 := HK.o.at_ 10 rfl
  have hl0 := HK.o.lt
  clear hn hr hs hB h0 ht hY hk
  go_enter Tryz.func15, Tryz.ntmps15
  go_upto_region 1 with (fail)
  rw [← HYY.o]
  go_wp2_with fail
  refine C1.o.mono ?_
  rintro e w1 ⟨rfl, hb1⟩
  have hk1 := HK.o.below hb1 hl0
  have a0 := hk1.at_ 0 rfl
  have HK1 := hd hk1
  have hl1 := hk1.lt
  have HB1 := hd (HBY.o.trans (hb1.mono HBY.o.size))
  clear hb1 hk1 y0 y1 y2 y3 y4 y5 y6 y7 y8 y9 y10 hl0
  go_wp2_with fail
  refine (C2.o _).mono ?_
  rintro e w2 ⟨rfl, hb2⟩
  have hk2 := HK1.o.below hb2 hl1
  have HB2 := hd (HB1.o.trans (hb2.mono HB1.o.size))
  obtain ⟨wc, hwc⟩ : ∃ wc, wc = w2.alloc (.cells #[.bool h1, .bool h2, .bool h3, .bool h4, .bool h5, .bool h6, .bool h7, .bool h8, .bool h9] 78) := ⟨_, rfl⟩
  have HK := hd (show Blk wc w.heap.size 26 #[.int .i64 k, .string (bs tn), .string (bs col), .string (bs uid), .string (bs card), .int .i64 ck, .int .i64 cv, .slice A n c, .int .i64 tok, .int .i64 most, .int .i64 ticks] by rw [hwc]; exact hk2.alloc _)
  obtain ⟨G, hG⟩ : ∃ G, w2.heap.size = G := ⟨_, rfl⟩
  have HH := hd (show Blk wc G 78 #[.bool h1, .bool h2, .bool h3, .bool h4, .bool h5, .bool h6, .bool h7, .bool h8, .bool h9] by rw [hwc, ← hG]; exact Blk.new _ _ _)
  have HB := hd (show Below w.heap.size w wc by rw [hwc]; exact HB2.o.alloc HB2.o.size _)
  have HWC := hd hwc
  have HGG := hd hG
  clear hb2 hk2 hwc hG a0 hl1 C1 C2 HK1
  go_upto_region 5 with (fail)
  rw [← HWC.o]
  (try rw [HGG.o])
  obtain ⟨B, m, d, L, hBm, HL, HW⟩ : ∃ (B : Option Addr) (m d : Nat) (L : List UInt8), (B = none ∧ m = 0 ∧ d = 0) ∧ Hd (m = L.length ∧ L = []) ∧ Hd (Row wc (From w.heap.size) 5 1 B m d (u8E L)) := ⟨none, 0, 0, [], ⟨rfl, rfl, rfl⟩, hd ⟨rfl, rfl⟩, hd (Row.nil _ _ _ _)⟩
  obtain ⟨rfl, rfl, rfl⟩ := hBm
  have HL0 := hd HL.o.2
  have HM := hd HL.o.1
  clear HL HB1 HB2
  have hm : (0 : Nat) ≤ 0 := Nat.le_refl _
  have e0 := HH.o.at_ 0 rfl
  have el := HH.o.lt
  have a0 := HK.o.at_ 1 rfl
  skip
  have al := HK.o.lt
  go_upto_if 18 with (fail)
  go_cut [6] from 19 to 22 (fun b wx => ∃ (B : Option Addr) (m d : Nat), b = .slice B m d ∧ m ≤ 20009 ∧ Hd (m = (L ++ eT h1 tn).length) ∧ Hd (Row wx (From w.heap.size) 5 1 B m d (u8E (L ++ eT h1 tn))) ∧ Hd (Blk wx w.heap.size 26 #[.int .i64 k, .string (bs tn), .string (bs col), .string (bs uid), .string (bs card), .int .i64 ck, .int .i64 cv, .slice A n c, .int .i64 tok, .int .i64 most, .int .i64 ticks]) ∧ Hd (Blk wx G 78 #[.bool h1, .bool h2, .bool h3, .bool h4, .bool h5, .bool h6, .bool h7, .bool h8, .bool h9]) ∧ Hd (Below w.heap.size w wx))
  case first =>
    cases h1 with
    | false =>
      go_wp2_with fail
      go_meet
      have e : L ++ eT false tn = L := List.append_nil L
      rw [e]
      exact ⟨none, 0, 0, rfl, by omega, HM, HW, HK, HH, HB⟩
    | true =>
      go_wp2_with fail
      refine (ptext_calls _ none 0 0 L (bs tn) HM.o HW.o.rds (by omega) (by rw [bs_size]; have := HE.o.stn; omega)).mono ?_
      rintro e u ⟨⟨B9, m9, d9, rfl, hm9, hr9, hb9⟩⟩
      have KK := hd (HK.o.below hb9 al)
      have KH := hd (HH.o.below hb9 el)
      have KB := hd (HB.o.trans (hb9.mono HB.o.size))
      rw [bs_data] at hm9 hr9
      have hq : m9 ≤ 20009 := by
        have h1 := HM.o
        have h2 := HE.o.Ltn
        rw [hm9, List.length_append, ← h1]
        omega
      have KM := hd hm9
      have KW := hd (hr9.mono (T := From w.heap.size) (fun q hq => Nat.le_trans HB.o.size hq))
      clear hm9 hr9 hb9 a0 al e0 el 
      go_wp2_with fail
      go_meet
      exact ⟨B9, m9, d9, rfl, hq, KM, KW, KK, KH, KB⟩
  case rest =>
  clear HM HW HK HH HB e0 el a0 al hm
  obtain ⟨B, m, d, rfl, hm, HM, HW, HK, HH, HB⟩ := hcut
  obtain ⟨L', hL'⟩ : ∃ L', L ++ eT h1 tn = L' := ⟨_, rfl⟩
  rw [hL'] at HM HW
  have HL1 := hd (show L' = eT h1 tn by rw [← hL', HL0.o]; rfl)
  clear hL'
  clear HL0
  obtain ⟨L, rfl⟩ : ∃ L, L = L' := ⟨_, rfl⟩
  have e0 := HH.o.at_ 1 rfl
  have el := HH.o.lt
  have a0 := HK.o.at_ 2 rfl
  skip
  have al := HK.o.lt
  go_upto_if 24 with (fail)
  go_cut [6] from 25 to 28 (fun b wx => ∃ (B : Option Addr) (m d : Nat), b = .slice B m d ∧ m ≤ 40018 ∧ Hd (m = (L ++ eT h2 col).length) ∧ Hd (Row wx (From w.heap.size) 5 1 B m d (u8E (L ++ eT h2 col))) ∧ Hd (Blk wx w.heap.size 26 #[.int .i64 k, .string (bs tn), .string (bs col), .string (bs uid), .string (bs card), .int .i64 ck, .int .i64 cv, .slice A n c, .int .i64 tok, .int .i64 most, .int .i64 ticks]) ∧ Hd (Blk wx G 78 #[.bool h1, .bool h2, .bool h3, .bool h4, .bool h5, .bool h6, .bool h7, .bool h8, .bool h9]) ∧ Hd (Below w.heap.size w wx))
  case first =>
    cases h2 with
    | false =>
      go_wp2_with fail
      go_meet
      have e : L ++ eT false col = L := List.append_nil L
      rw [e]
      exact ⟨B, m, d, rfl, by omega, HM, HW, HK, HH, HB⟩
    | true =>
      go_wp2_with fail
      refine (ptext_calls _ B m d L (bs col) HM.o HW.o.rds (by omega) (by rw [bs_size]; have := HE.o.scol; omega)).mono ?_
      rintro e u ⟨⟨B9, m9, d9, rfl, hm9, hr9, hb9⟩⟩
      have KK := hd (HK.o.below hb9 al)
      have KH := hd (HH.o.below hb9 el)
      have KB := hd (HB.o.trans (hb9.mono HB.o.size))
      rw [bs_data] at hm9 hr9
      have hq : m9 ≤ 40018 := by
        have h1 := HM.o
        have h2 := HE.o.Lcol
        rw [hm9, List.length_append, ← h1]
        omega
      have KM := hd hm9
      have KW := hd (hr9.mono (T := From w.heap.size) (fun q hq => Nat.le_trans HB.o.size hq))
      clear hm9 hr9 hb9 a0 al e0 el 
      go_wp2_with fail
      go_meet
      exact ⟨B9, m9, d9, rfl, hq, KM, KW, KK, KH, KB⟩
  case rest =>
  clear HM HW HK HH HB e0 el a0 al hm
  obtain ⟨B, m, d, rfl, hm, HM, HW, HK, HH, HB⟩ := hcut
  obtain ⟨L', hL'⟩ : ∃ L', L ++ eT h2 col = L' := ⟨_, rfl⟩
  rw [hL'] at HM HW
  have HL2 := hd (show L' = L ++ eT h2 col by rw [← hL'])
  clear hL'
  have HL2 := hd (HL2.o.trans (congrArg (· ++ eT h2 col) HL1.o))
  clear HL1
  obtain ⟨L, rfl⟩ : ∃ L, L = L' := ⟨_, rfl⟩
  have e0 := HH.o.at_ 2 rfl
  have el := HH.o.lt
  have a0 := HK.o.at_ 3 rfl
  skip
  have al := HK.o.lt
  go_upto_if 30 with (fail)
  go_cut [6] from 31 to 34 (fun b wx => ∃ (B : Option Addr) (m d : Nat), b = .slice B m d ∧ m ≤ 60027 ∧ Hd (m = (L ++ eT h3 uid).length) ∧ Hd (Row wx (From w.heap.size) 5 1 B m d (u8E (L ++ eT h3 uid))) ∧ Hd (Blk wx w.heap.size 26 #[.int .i64 k, .string (bs tn), .string (bs col), .string (bs uid), .string (bs card), .int .i64 ck, .int .i64 cv, .slice A n c, .int .i64 tok, .int .i64 most, .int .i64 ticks]) ∧ Hd (Blk wx G 78 #[.bool h1, .bool h2, .bool h3, .bool h4, .bool h5, .bool h6, .bool h7, .bool h8, .bool h9]) ∧ Hd (Below w.heap.size w wx))
  case first =>
    cases h3 with
    | false =>
      go_wp2_with fail
      go_meet
      have e : L ++ eT false uid = L := List.append_nil L
      rw [e]
      exact ⟨B, m, d, rfl, by omega, HM, HW, HK, HH, HB⟩
    | true =>
      go_wp2_with fail
      refine (ptext_calls _ B m d L (bs uid) HM.o HW.o.rds (by omega) (by rw [bs_size]; have := HE.o.suid; omega)).mono ?_
      rintro e u ⟨⟨B9, m9, d9, rfl, hm9, hr9, hb9⟩⟩
      have KK := hd (HK.o.below hb9 al)
      have KH := hd (HH.o.below hb9 el)
      have KB := hd (HB.o.trans (hb9.mono HB.o.size))
      rw [bs_data] at hm9 hr9
      have hq : m9 ≤ 60027 := by
        have h1 := HM.o
        have h2 := HE.o.Luid
        rw [hm9, List.length_append, ← h1]
        omega
      have KM := hd hm9
      have KW := hd (hr9.mono (T := From w.heap.size) (fun q hq => Nat.le_trans HB.o.size hq))
      clear hm9 hr9 hb9 a0 al e0 el 
      go_wp2_with fail
      go_meet
      exact ⟨B9, m9, d9, rfl, hq, KM, KW, KK, KH, KB⟩
  case rest =>
  clear HM HW HK HH HB e0 el a0 al hm
  obtain ⟨B, m, d, rfl, hm, HM, HW, HK, HH, HB⟩ := hcut
  obtain ⟨L', hL'⟩ : ∃ L', L ++ eT h3 uid = L' := ⟨_, rfl⟩
  rw [hL'] at HM HW
  have HL3 := hd (show L' = L ++ eT h3 uid by rw [← hL'])
  clear hL'
  have HL3 := hd (HL3.o.trans (congrArg (· ++ eT h3 uid) HL2.o))
  clear HL2
  obtain ⟨L, rfl⟩ : ∃ L, L = L' := ⟨_, rfl⟩
  have e0 := HH.o.at_ 3 rfl
  have el := HH.o.lt
  have a0 := HK.o.at_ 4 rfl
  skip
  have al := HK.o.lt
  go_upto_if 36 with (fail)
  go_cut [6] from 37 to 40 (fun b wx => ∃ (B : Option Addr) (m d : Nat), b = .slice B m d ∧ m ≤ 80036 ∧ Hd (m = (L ++ eT h4 card).length) ∧ Hd (Row wx (From w.heap.size) 5 1 B m d (u8E (L ++ eT h4 card))) ∧ Hd (Blk wx w.heap.size 26 #[.int .i64 k, .string (bs tn), .string (bs col), .string (bs uid), .string (bs card), .int .i64 ck, .int .i64 cv, .slice A n c, .int .i64 tok, .int .i64 most, .int .i64 ticks]) ∧ Hd (Blk wx G 78 #[.bool h1, .bool h2, .bool h3, .bool h4, .bool h5, .bool h6, .bool h7, .bool h8, .bool h9]) ∧ Hd (Below w.heap.size w wx))
  case first =>
    cases h4 with
    | false =>
      go_wp2_with fail
      go_meet
      have e : L ++ eT false card = L := List.append_nil L
      rw [e]
      exact ⟨B, m, d, rfl, by omega, HM, HW, HK, HH, HB⟩
    | true =>
      go_wp2_with fail
      refine (ptext_calls _ B m d L (bs card) HM.o HW.o.rds (by omega) (by rw [bs_size]; have := HE.o.scard; omega)).mono ?_
      rintro e u ⟨⟨B9, m9, d9, rfl, hm9, hr9, hb9⟩⟩
      have KK := hd (HK.o.below hb9 al)
      have KH := hd (HH.o.below hb9 el)
      have KB := hd (HB.o.trans (hb9.mono HB.o.size))
      rw [bs_data] at hm9 hr9
      have hq : m9 ≤ 80036 := by
        have h1 := HM.o
        have h2 := HE.o.Lcard
        rw [hm9, List.length_append, ← h1]
        omega
      have KM := hd hm9
      have KW := hd (hr9.mono (T := From w.heap.size) (fun q hq => Nat.le_trans HB.o.size hq))
      clear hm9 hr9 hb9 a0 al e0 el 
      go_wp2_with fail
      go_meet
      exact ⟨B9, m9, d9, rfl, hq, KM, KW, KK, KH, KB⟩
  case rest =>
  clear HM HW HK HH HB e0 el a0 al hm
  obtain ⟨B, m, d, rfl, hm, HM, HW, HK, HH, HB⟩ := hcut
  obtain ⟨L', hL'⟩ : ∃ L', L ++ eT h4 card = L' := ⟨_, rfl⟩
  rw [hL'] at HM HW
  have HL4 := hd (show L' = L ++ eT h4 card by rw [← hL'])
  clear hL'
  have HL4 := hd (HL4.o.trans (congrArg (· ++ eT h4 card) HL3.o))
  clear HL3
  obtain ⟨L, rfl⟩ : ∃ L, L = L' := ⟨_, rfl⟩
  have e0 := HH.o.at_ 4 rfl
  have el := HH.o.lt
  have a0 := HK.o.at_ 5 rfl
  have a1 := HK.o.at_ 6 rfl
  have al := HK.o.lt
  go_upto_if 42 with (fail)
  go_cut [6] from 43 to 46 (fun b wx => ∃ (B : Option Addr) (m d : Nat), b = .slice B m d ∧ m ≤ 80054 ∧ Hd (m = (L ++ eC h5 ck cv).length) ∧ Hd (Row wx (From w.heap.size) 5 1 B m d (u8E (L ++ eC h5 ck cv))) ∧ Hd (Blk wx w.heap.size 26 #[.int .i64 k, .string (bs tn), .string (bs col), .string (bs uid), .string (bs card), .int .i64 ck, .int .i64 cv, .slice A n c, .int .i64 tok, .int .i64 most, .int .i64 ticks]) ∧ Hd (Blk wx G 78 #[.bool h1, .bool h2, .bool h3, .bool h4, .bool h5, .bool h6, .bool h7, .bool h8, .bool h9]) ∧ Hd (Below w.heap.size w wx))
  case first =>
    cases h5 with
    | false =>
      go_wp2_with fail
      go_meet
      have e : L ++ eC false ck cv = L := List.append_nil L
      rw [e]
      exact ⟨B, m, d, rfl, by omega, HM, HW, HK, HH, HB⟩
    | true =>
      go_wp2_with fail
      refine (pcond_calls _ B m d L ck cv HM.o HW.o.rds (by omega) HE.o.sck HE.o.scv).mono ?_
      rintro e u ⟨⟨B9, m9, d9, rfl, hm9, hr9, hb9⟩⟩
      have KK := hd (HK.o.below hb9 al)
      have KH := hd (HH.o.below hb9 el)
      have KB := hd (HB.o.trans (hb9.mono HB.o.size))
      have hq : m9 ≤ 80054 := by
        have h1 := HM.o
        have h2 := HE.o.Lcond
        rw [hm9, List.length_append, ← h1]
        omega
      have KM := hd hm9
      have KW := hd (hr9.mono (T := From w.heap.size) (fun q hq => Nat.le_trans HB.o.size hq))
      clear hm9 hr9 hb9 a0 al e0 el a1
      go_wp2_with fail
      go_meet
      exact ⟨B9, m9, d9, rfl, hq, KM, KW, KK, KH, KB⟩
  case rest =>
  clear HM HW HK HH HB e0 el a0 al hm a1
  obtain ⟨B, m, d, rfl, hm, HM, HW, HK, HH, HB⟩ := hcut
  obtain ⟨L', hL'⟩ : ∃ L', L ++ eC h5 ck cv = L' := ⟨_, rfl⟩
  rw [hL'] at HM HW
  have HL5 := hd (show L' = L ++ eC h5 ck cv by rw [← hL'])
  clear hL'
  have HL5 := hd (HL5.o.trans (congrArg (· ++ eC h5 ck cv) HL4.o))
  clear HL4
  obtain ⟨L, rfl⟩ : ∃ L, L = L' := ⟨_, rfl⟩
  have e0 := HH.o.at_ 5 rfl
  have el := HH.o.lt
  have a0 := HK.o.at_ 7 rfl
  skip
  have al := HK.o.lt
  go_upto_if 48 with (fail)
  go_cut [6, 8] from 49 to 64 (fun b _ wx => ∃ (B : Option Addr) (m d : Nat), b = .slice B m d ∧ m ≤ 100000 ∧ Hd (m = (L ++ eO h6 ops).length) ∧ Hd (Row wx (From w.heap.size) 5 1 B m d (u8E (L ++ eO h6 ops))) ∧ Hd (Blk wx w.heap.size 26 #[.int .i64 k, .string (bs tn), .string (bs col), .string (bs uid), .string (bs card), .int .i64 ck, .int .i64 cv, .slice A n c, .int .i64 tok, .int .i64 most, .int .i64 ticks]) ∧ Hd (Blk wx G 78 #[.bool h1, .bool h2, .bool h3, .bool h4, .bool h5, .bool h6, .bool h7, .bool h8, .bool h9]) ∧ Hd (Below w.heap.size w wx))
  case first =>
    cases h6 with
    | false =>
      go_wp2_with fail
      go_meet
      have e : L ++ eO false ops = L := List.append_nil L
      rw [e]
      exact ⟨B, m, d, rfl, by omega, HM, HW, HK, HH, HB⟩
    | true =>
      go_wp2_with fail
      refine (pnum_calls _ B m d L (n : Int) HM.o HW.o.rds (by omega) (by omega) (by omega)).mono ?_
      rintro e u ⟨⟨B9, m9, d9, rfl, hm9, hr9, hb9⟩⟩
      have KK := hd (HK.o.below hb9 al)
      have KH := hd (HH.o.below hb9 el)
      have KB := hd (HB.o.trans (hb9.mono HB.o.size))
      have hq : m9 ≤ 80072 := by
        have h1 := HM.o
        have h2 : (numB (n : Int)).length ≤ 9 := numB_len9 ⟨by omega, by omega⟩
        rw [hm9, List.length_append, ← h1]
        omega
      have KM := hd hm9
      have KW := hd (hr9.mono (T := From w.heap.size) (fun q hq => Nat.le_trans HB.o.size hq))
      clear hm9 hr9 hb9 a0 al
      have a0 := KK.o.at_ 7 rfl
      go_wp2_with fail
      go_loopw [57, 8, 6] (fun i _ b wr => ∃ (k9 m d : Nat) (B : Option Addr), i = .int .i64 k9 ∧ k9 ≤ n ∧ b = .slice B m d ∧ m ≤ 80072 + k9 * 1000 ∧ Hd (m = ((L ++ numB (n : Int)) ++ opsB (ops.take k9)).length) ∧ Hd (Row wr (From w.heap.size) 5 1 B m d (u8E ((L ++ numB (n : Int)) ++ opsB (ops.take k9)))) ∧ Hd (Below w.heap.size w wr) ∧ Hd (Below u.heap.size u wr)) (fun i _ _ _ => n - (intOf i).toNat)
      case atStart => exact ⟨0, m9, d9, B9, rfl, Nat.zero_le _, rfl, by omega, hd (by rw [List.take_zero]; simpa [opsB] using KM.o), hd (by rw [List.take_zero]; simpa [opsB] using KW.o), KB, hd (Below.refl _ _)⟩
      case round =>
        obtain ⟨k9, m, d, B, rfl, hk, rfl, hmb, HM9, HW9, HB9, HBC⟩ := hrel
        have hki : (0 : Int) ≤ (k9 : Int) := by omega
        by_cases hlt : k9 < n
        · have hlti : (k9 : Int) < (n : Int) := by omega
          have hkl : k9 < ops.length := by rw [HNN.o]; exact hlt
          obtain ⟨g, o, rfl, hg, hcc⟩ := HRD.o.at_ (by omega)
          obtain ⟨x, hx⟩ : ∃ x, ops[k9]'hkl = x := ⟨_, rfl⟩
          have HT : Hd (opsB (ops.take (k9 + 1)) = opsB (ops.take k9) ++ opB x) := hd (by rw [opsB_take _ _ hkl, hx])
          have hmem : x ∈ ops := by rw [← hx]; exact List.getElem_mem hkl
          have hob := HE.o.sops x hmem
          have HXL := hd hob.1
          have hcell : ∀ j u, j < 5 → (opEnc x)[j]? = some u → wr.cell? ⟨g, o + (k9 * 5 + j), none⟩ = some u := fun j u hj hv => (HB9.o.cell (p := ⟨g, o + (k9 * 5 + j), none⟩) hg).trans (hcc _ _ ((opsE_at ops k9 hkl j hj).trans (by rw [hx]; exact hv)))
          have C3 := fun W (hr : Rds W B m 1 (u8E ((L ++ numB (n : Int)) ++ opsB (ops.take k9)))) => pop_calls W B m d _ x HM9.o hr (by omega) hob.2.1 hob.2.2.1 hob.2.2.2.1 hob.2.2.2.2
          obtain ⟨xd, xu, xc, xk, xv⟩ := x
          simp only [opEnc] at C3
          have k0 := hcell 0 _ (by omega) rfl
          have k1 := hcell 1 _ (by omega) rfl
          have k2 := hcell 2 _ (by omega) rfl
          have k3 := hcell 3 _ (by omega) rfl
          have k4 := hcell 4 _ (by omega) rfl
          rw [← Nat.add_assoc] at k0 k1 k2 k3 k4
          rw [Nat.add_zero] at k0
          have HA := hd (HB9.o.alloc HB9.o.size (.cells #[.bool xd, .string (bs xu), .string (bs xc), .int .i64 xk, .int .i64 xv] 43))
          have HAC := hd (HBC.o.alloc HBC.o.size (.cells #[.bool xd, .string (bs xu), .string (bs xc), .int .i64 xk, .int .i64 xv] 43))
          have K3 := hd (C3 (wr.alloc (.cells #[.bool xd, .string (bs xu), .string (bs xc), .int .i64 xk, .int .i64 xv] 43)) (HW9.o.rds.alloc _))
          clear hcell hcc hx hkl hmem hob C3
          go_wp2_with fail
          refine K3.o.mono ?_
          rintro e w9 ⟨⟨B8, m8, d8, rfl, hm8, hr8, hb8⟩⟩
          have hq9 : m8 ≤ 80072 + (k9 + 1) * 1000 := by
            have h1 := HM9.o
            have h2 := HXL.o
            rw [hm8, List.length_append, ← h1]
            omega
          have HM8 := hd hm8
          have HR8 := hd (hr8.mono (T := From w.heap.size) (fun q hq => Nat.le_trans HA.o.size hq))
          have HB8 := hd (HA.o.trans (hb8.mono HA.o.size))
          have HC8 := hd (HAC.o.trans (hb8.mono HAC.o.size))
          clear hm8 hr8 hb8
          go_wp2
          go_roundw
          case rel => exact ⟨k9 + 1, m8, d8, B8, by go_num, by omega, by rfl, hq9, hd (by rw [HM8.o, HT.o, List.append_assoc]), hd (by rw [HT.o, ← List.append_assoc]; exact HR8.o), HB8, HC8⟩
          case measure => simp [intOf]; omega
        · obtain rfl : k9 = n := by omega
          have HE2 := hd (show (L ++ numB (k9 : Int)) ++ opsB (ops.take k9) = L ++ eO true ops by
            rw [List.take_of_length_le (by rw [HNN.o]; exact Nat.le_refl _)]
            show _ = L ++ (numB ops.length ++ opsB ops)
            rw [HNN.o, List.append_assoc])
          have KK9 := hd (KK.o.below HBC.o KK.o.lt)
          have KH9 := hd (KH.o.below HBC.o KH.o.lt)
          clear a0 e0 el
          go_wp2_with fail
          go_meet
          exact ⟨B, m, d, rfl, by omega, hd (by rw [← HE2.o]; exact HM9.o), hd (by rw [← HE2.o]; exact HW9.o), KK9, KH9, HB9⟩
  case rest =>
  clear HM HW HK HH HB e0 el a0 al hm
  obtain ⟨B, m, d, rfl, hm, HM, HW, HK, HH, HB⟩ := hcut
  obtain ⟨L', hL'⟩ : ∃ L', L ++ eO h6 ops = L' := ⟨_, rfl⟩
  rw [hL'] at HM HW
  have HL6 := hd (show L' = L ++ eO h6 ops by rw [← hL'])
  clear hL'
  have HL6 := hd (HL6.o.trans (congrArg (· ++ eO h6 ops) HL5.o))
  clear HL5
  obtain ⟨L, rfl⟩ : ∃ L, L = L' := ⟨_, rfl⟩
  have e0 := HH.o.at_ 6 rfl
  have el := HH.o.lt
  have a0 := HK.o.at_ 8 rfl
  skip
  have al := HK.o.lt
  go_upto_if 66 with (fail)
  go_cut [6] from 67 to 70 (fun b wx => ∃ (B : Option Addr) (m d : Nat), b = .slice B m d ∧ m ≤ 100018 ∧ Hd (m = (L ++ eN h7 tok).length) ∧ Hd (Row wx (From w.heap.size) 5 1 B m d (u8E (L ++ eN h7 tok))) ∧ Hd (Blk wx w.heap.size 26 #[.int .i64 k, .string (bs tn), .string (bs col), .string (bs uid), .string (bs card), .int .i64 ck, .int .i64 cv, .slice A n c, .int .i64 tok, .int .i64 most, .int .i64 ticks]) ∧ Hd (Blk wx G 78 #[.bool h1, .bool h2, .bool h3, .bool h4, .bool h5, .bool h6, .bool h7, .bool h8, .bool h9]) ∧ Hd (Below w.heap.size w wx))
  case first =>
    cases h7 with
    | false =>
      go_wp2_with fail
      go_meet
      have e : L ++ eN false tok = L := List.append_nil L
      rw [e]
      exact ⟨B, m, d, rfl, by omega, HM, HW, HK, HH, HB⟩
    | true =>
      go_wp2_with fail
      refine (pnum_calls _ B m d L tok HM.o HW.o.rds (by omega) HE.o.stok.2 HE.o.stok.1).mono ?_
      rintro e u ⟨⟨B9, m9, d9, rfl, hm9, hr9, hb9⟩⟩
      have KK := hd (HK.o.below hb9 al)
      have KH := hd (HH.o.below hb9 el)
      have KB := hd (HB.o.trans (hb9.mono HB.o.size))
      have hq : m9 ≤ 100018 := by
        have h1 := HM.o
        have h2 := HE.o.Ltok
        rw [hm9, List.length_append, ← h1]
        omega
      have KM := hd hm9
      have KW := hd (hr9.mono (T := From w.heap.size) (fun q hq => Nat.le_trans HB.o.size hq))
      clear hm9 hr9 hb9 a0 al e0 el 
      go_wp2_with fail
      go_meet
      exact ⟨B9, m9, d9, rfl, hq, KM, KW, KK, KH, KB⟩
  case rest =>
  clear HM HW HK HH HB e0 el a0 al hm
  obtain ⟨B, m, d, rfl, hm, HM, HW, HK, HH, HB⟩ := hcut
  obtain ⟨L', hL'⟩ : ∃ L', L ++ eN h7 tok = L' := ⟨_, rfl⟩
  rw [hL'] at HM HW
  have HL7 := hd (show L' = L ++ eN h7 tok by rw [← hL'])
  clear hL'
  have HL7 := hd (HL7.o.trans (congrArg (· ++ eN h7 tok) HL6.o))
  clear HL6
  obtain ⟨L, rfl⟩ : ∃ L, L = L' := ⟨_, rfl⟩
  have e0 := HH.o.at_ 7 rfl
  have el := HH.o.lt
  have a0 := HK.o.at_ 9 rfl
  skip
  have al := HK.o.lt
  go_upto_if 72 with (fail)
  go_cut [6] from 73 to 76 (fun b wx => ∃ (B : Option Addr) (m d : Nat), b = .slice B m d ∧ m ≤ 100036 ∧ Hd (m = (L ++ eN h8 most).length) ∧ Hd (Row wx (From w.heap.size) 5 1 B m d (u8E (L ++ eN h8 most))) ∧ Hd (Blk wx w.heap.size 26 #[.int .i64 k, .string (bs tn), .string (bs col), .string (bs uid), .string (bs card), .int .i64 ck, .int .i64 cv, .slice A n c, .int .i64 tok, .int .i64 most, .int .i64 ticks]) ∧ Hd (Blk wx G 78 #[.bool h1, .bool h2, .bool h3, .bool h4, .bool h5, .bool h6, .bool h7, .bool h8, .bool h9]) ∧ Hd (Below w.heap.size w wx))
  case first =>
    cases h8 with
    | false =>
      go_wp2_with fail
      go_meet
      have e : L ++ eN false most = L := List.append_nil L
      rw [e]
      exact ⟨B, m, d, rfl, by omega, HM, HW, HK, HH, HB⟩
    | true =>
      go_wp2_with fail
      refine (pnum_calls _ B m d L most HM.o HW.o.rds (by omega) HE.o.smost.2 HE.o.smost.1).mono ?_
      rintro e u ⟨⟨B9, m9, d9, rfl, hm9, hr9, hb9⟩⟩
      have KK := hd (HK.o.below hb9 al)
      have KH := hd (HH.o.below hb9 el)
      have KB := hd (HB.o.trans (hb9.mono HB.o.size))
      have hq : m9 ≤ 100036 := by
        have h1 := HM.o
        have h2 := HE.o.Lmost
        rw [hm9, List.length_append, ← h1]
        omega
      have KM := hd hm9
      have KW := hd (hr9.mono (T := From w.heap.size) (fun q hq => Nat.le_trans HB.o.size hq))
      clear hm9 hr9 hb9 a0 al e0 el 
      go_wp2_with fail
      go_meet
      exact ⟨B9, m9, d9, rfl, hq, KM, KW, KK, KH, KB⟩
  case rest =>
  clear HM HW HK HH HB e0 el a0 al hm
  obtain ⟨B, m, d, rfl, hm, HM, HW, HK, HH, HB⟩ := hcut
  obtain ⟨L', hL'⟩ : ∃ L', L ++ eN h8 most = L' := ⟨_, rfl⟩
  rw [hL'] at HM HW
  have HL8 := hd (show L' = L ++ eN h8 most by rw [← hL'])
  clear hL'
  have HL8 := hd (HL8.o.trans (congrArg (· ++ eN h8 most) HL7.o))
  clear HL7
  obtain ⟨L, rfl⟩ : ∃ L, L = L' := ⟨_, rfl⟩
  have e0 := HH.o.at_ 8 rfl
  have el := HH.o.lt
  have a0 := HK.o.at_ 10 rfl
  skip
  have al := HK.o.lt
  go_upto_if 78 with (fail)
  go_cut [6] from 79 to 82 (fun b wx => ∃ (B : Option Addr) (m d : Nat), b = .slice B m d ∧ m ≤ 100054 ∧ Hd (m = (L ++ eN h9 ticks).length) ∧ Hd (Row wx (From w.heap.size) 5 1 B m d (u8E (L ++ eN h9 ticks))) ∧ Hd (Blk wx w.heap.size 26 #[.int .i64 k, .string (bs tn), .string (bs col), .string (bs uid), .string (bs card), .int .i64 ck, .int .i64 cv, .slice A n c, .int .i64 tok, .int .i64 most, .int .i64 ticks]) ∧ Hd (Blk wx G 78 #[.bool h1, .bool h2, .bool h3, .bool h4, .bool h5, .bool h6, .bool h7, .bool h8, .bool h9]) ∧ Hd (Below w.heap.size w wx))
  case first =>
    cases h9 with
    | false =>
      go_wp2_with fail
      go_meet
      have e : L ++ eN false ticks = L := List.append_nil L
      rw [e]
      exact ⟨B, m, d, rfl, by omega, HM, HW, HK, HH, HB⟩
    | true =>
      go_wp2_with fail
      refine (pnum_calls _ B m d L ticks HM.o HW.o.rds (by omega) HE.o.sticks.2 HE.o.sticks.1).mono ?_
      rintro e u ⟨⟨B9, m9, d9, rfl, hm9, hr9, hb9⟩⟩
      have KK := hd (HK.o.below hb9 al)
      have KH := hd (HH.o.below hb9 el)
      have KB := hd (HB.o.trans (hb9.mono HB.o.size))
      have hq : m9 ≤ 100054 := by
        have h1 := HM.o
        have h2 := HE.o.Lticks
        rw [hm9, List.length_append, ← h1]
        omega
      have KM := hd hm9
      have KW := hd (hr9.mono (T := From w.heap.size) (fun q hq => Nat.le_trans HB.o.size hq))
      clear hm9 hr9 hb9 a0 al e0 el 
      go_wp2_with fail
      go_meet
      exact ⟨B9, m9, d9, rfl, hq, KM, KW, KK, KH, KB⟩
  case rest =>
  clear HM HW HK HH HB e0 el a0 al hm
  obtain ⟨B, m, d, rfl, hm, HM, HW, HK, HH, HB⟩ := hcut
  obtain ⟨L', hL'⟩ : ∃ L', L ++ eN h9 ticks = L' := ⟨_, rfl⟩
  rw [hL'] at HM HW
  have HL9 := hd (show L' = L ++ eN h9 ticks by rw [← hL'])
  clear hL'
  have HL9 := hd (HL9.o.trans (congrArg (· ++ eN h9 ticks) HL8.o))
  clear HL8
  obtain ⟨L, rfl⟩ : ∃ L, L = L' := ⟨_, rfl⟩
  have HEQ := hd (show L = encB ⟨k, tn, col, uid, card, ck, cv, ops, tok, most, ticks⟩ by
    rw [HL9.o]
    unfold encB
    simp only [HE1.o, HE2.o, HE3.o, HE4.o, HE5.o, HE6.o, HE7.o, HE8.o, HE9.o, List.append_assoc])
  go_wp2
  go_ret2
  exact ⟨fun _ => ⟨B, m, d, rfl, by rw [HM.o, HEQ.o], by rw [← HEQ.o]; exact HW.o, HB.o⟩, fun h => absurd H0.o h⟩

set_option maxRecDepth 100000 in
set_option maxHeartbeats 4000000 in
theorem enc_calls (q : Rq) (A : Option Addr) (c : Nat) (w : World) (ht : Tbs w) (hr : Rds w A q.ops.length 5 (opsE q.ops)) (hs : RqS q) (hB : RqB q) :
    Calls Tryz.prog 15 #[reqV q A c] w fun e w' => EncR w q e w' := by
  by_cases h0 : chk q = 0
  · obtain ⟨k, tn, col, uid, card, ck, cv, ops, tok, most, ticks⟩ := q
    exact enc_in k tn col uid card ck cv ops tok most ticks A c w ht hr hs hB h0
  · have C1 := fun W (h : Below w.heap.size w W) => check_calls q A c W (ht.below h) (hr.below h) hs
    have H0 := hd h0
    have h0b : (chk q != 0) = true := by simpa using h0
    unfold reqV reqE at *
    generalize q.ops.length = n at *
    obtain ⟨Y, hY⟩ : ∃ Y, Y = w.alloc (.cells #[.int .i64 q.k, .string (bs q.tn), .string (bs q.col), .string (bs q.uid), .string (bs q.card), .int .i64 q.ck, .int .i64 q.cv, .slice A n c, .int .i64 q.tok, .int .i64 q.most, .int .i64 q.ticks] 26) := ⟨_, rfl⟩
    have HK := hd (show Blk Y w.heap.size 26 #[.int .i64 q.k, .string (bs q.tn), .string (bs q.col), .string (bs q.uid), .string (bs q.card), .int .i64 q.ck, .int .i64 q.cv, .slice A n c, .int .i64 q.tok, .int .i64 q.most, .int .i64 q.ticks] by rw [hY]; exact Blk.new _ _ _)
    have HBY := hd (show Below w.heap.size w Y by rw [hY]; exact (Below.refl _ w).alloc (Nat.le_refl _) _)
    have HYY := hd hY
    replace C1 := hd (C1 Y HBY.o)
    have y0 := HK.o.at_ 0 rfl
    have y1 := HK.o.at_ 1 rfl
    have y2 := HK.o.at_ 2 rfl
    have y3 := HK.o.at_ 3 rfl
    have y4 := HK.o.at_ 4 rfl
    have y5 := HK.o.at_ 5 rfl
    have y6 := HK.o.at_ 6 rfl
    have y7 := HK.o.at_ 7 rfl
    have y8 := HK.o.at_ 8 rfl
    have y9 := HK.o.at_ 9 rfl
    have y10 := HK.o.at_ 10 rfl
    have hl0 := HK.o.lt
    clear hr hs hB ht hY h0
    go_enter Tryz.func15, Tryz.ntmps15
    go_upto_region 1 with (fail)
    rw [← HYY.o]
    go_wp2_with fail
    refine C1.o.mono ?_
    rintro e w1 ⟨rfl, hb1⟩
    have HB1 := hd (HBY.o.trans (hb1.mono HBY.o.size))
    clear hb1
    go_wp2
    go_ret2
    exact ⟨fun h => absurd h H0.o, fun _ => ⟨rfl, HB1.o⟩⟩

end Go.Proofs.YtogjokofmfpmgaaGreatDoor
namespace Go.Proofs.YtogjokofmfpmgaaGreatDoor
open Go.RowKit
theorem c11 {w : World} {g : Nat} {t : TypeId} {c0 c1 c2 c3 c4 c5 c6 c7 c8 c9 c10 : Value} (h : Blk w g t #[c0, c1, c2, c3, c4, c5, c6, c7, c8, c9, c10]) : w.cell? ⟨g, 0, none⟩ = some c0 ∧ w.cell? ⟨g, 1, none⟩ = some c1 ∧ w.cell? ⟨g, 2, none⟩ = some c2 ∧ w.cell? ⟨g, 3, none⟩ = some c3 ∧ w.cell? ⟨g, 4, none⟩ = some c4 ∧ w.cell? ⟨g, 5, none⟩ = some c5 ∧ w.cell? ⟨g, 6, none⟩ = some c6 ∧ w.cell? ⟨g, 7, none⟩ = some c7 ∧ w.cell? ⟨g, 8, none⟩ = some c8 ∧ w.cell? ⟨g, 9, none⟩ = some c9 ∧ w.cell? ⟨g, 10, none⟩ = some c10 :=
  ⟨h.at_ 0 rfl, h.at_ 1 rfl, h.at_ 2 rfl, h.at_ 3 rfl, h.at_ 4 rfl, h.at_ 5 rfl, h.at_ 6 rfl, h.at_ 7 rfl, h.at_ 8 rfl, h.at_ 9 rfl, h.at_ 10 rfl⟩
end Go.Proofs.YtogjokofmfpmgaaGreatDoor
namespace Go.Proofs.YtogjokofmfpmgaaGreatDoor
open Go.RowKit
theorem c15 {w : World} {g : Nat} {t : TypeId} {c0 c1 c2 c3 c4 c5 c6 c7 c8 c9 c10 c11 c12 c13 c14 : Value} (h : Blk w g t #[c0, c1, c2, c3, c4, c5, c6, c7, c8, c9, c10, c11, c12, c13, c14]) : w.cell? ⟨g, 0, none⟩ = some c0 ∧ w.cell? ⟨g, 1, none⟩ = some c1 ∧ w.cell? ⟨g, 2, none⟩ = some c2 ∧ w.cell? ⟨g, 3, none⟩ = some c3 ∧ w.cell? ⟨g, 4, none⟩ = some c4 ∧ w.cell? ⟨g, 5, none⟩ = some c5 ∧ w.cell? ⟨g, 6, none⟩ = some c6 ∧ w.cell? ⟨g, 7, none⟩ = some c7 ∧ w.cell? ⟨g, 8, none⟩ = some c8 ∧ w.cell? ⟨g, 9, none⟩ = some c9 ∧ w.cell? ⟨g, 10, none⟩ = some c10 ∧ w.cell? ⟨g, 11, none⟩ = some c11 ∧ w.cell? ⟨g, 12, none⟩ = some c12 ∧ w.cell? ⟨g, 13, none⟩ = some c13 ∧ w.cell? ⟨g, 14, none⟩ = some c14 :=
  ⟨h.at_ 0 rfl, h.at_ 1 rfl, h.at_ 2 rfl, h.at_ 3 rfl, h.at_ 4 rfl, h.at_ 5 rfl, h.at_ 6 rfl, h.at_ 7 rfl, h.at_ 8 rfl, h.at_ 9 rfl, h.at_ 10 rfl, h.at_ 11 rfl, h.at_ 12 rfl, h.at_ 13 rfl, h.at_ 14 rfl⟩
theorem f15 {w : World} {g : Nat} {t : TypeId} {cs : Array Value} (h : Blk w g t cs) : w.frozen? ⟨g, 0, none⟩ = false ∧ w.frozen? ⟨g, 1, none⟩ = false ∧ w.frozen? ⟨g, 2, none⟩ = false ∧ w.frozen? ⟨g, 3, none⟩ = false ∧ w.frozen? ⟨g, 4, none⟩ = false ∧ w.frozen? ⟨g, 5, none⟩ = false ∧ w.frozen? ⟨g, 6, none⟩ = false ∧ w.frozen? ⟨g, 7, none⟩ = false ∧ w.frozen? ⟨g, 8, none⟩ = false ∧ w.frozen? ⟨g, 9, none⟩ = false ∧ w.frozen? ⟨g, 10, none⟩ = false ∧ w.frozen? ⟨g, 11, none⟩ = false ∧ w.frozen? ⟨g, 12, none⟩ = false ∧ w.frozen? ⟨g, 13, none⟩ = false ∧ w.frozen? ⟨g, 14, none⟩ = false :=
  ⟨h.frozen 0, h.frozen 1, h.frozen 2, h.frozen 3, h.frozen 4, h.frozen 5, h.frozen 6, h.frozen 7, h.frozen 8, h.frozen 9, h.frozen 10, h.frozen 11, h.frozen 12, h.frozen 13, h.frozen 14⟩
theorem Row.set15 {w : World} {S : Nat → Prop} {e : TypeId} {size n c g : Nat} {A : Option Addr} {xs : List Value} {t : TypeId} {cs : Array Value} {v0 v1 v2 v3 v4 v5 v6 v7 v8 v9 v10 v11 v12 v13 v14 : Value} (h : Row w S e size A n c xs) (hb : Blk w g t cs) (ht : e ≠ t) : Row (((((((((((((((w.setCell ⟨g, 0, none⟩ v0).setCell ⟨g, 1, none⟩ v1).setCell ⟨g, 2, none⟩ v2).setCell ⟨g, 3, none⟩ v3).setCell ⟨g, 4, none⟩ v4).setCell ⟨g, 5, none⟩ v5).setCell ⟨g, 6, none⟩ v6).setCell ⟨g, 7, none⟩ v7).setCell ⟨g, 8, none⟩ v8).setCell ⟨g, 9, none⟩ v9).setCell ⟨g, 10, none⟩ v10).setCell ⟨g, 11, none⟩ v11).setCell ⟨g, 12, none⟩ v12).setCell ⟨g, 13, none⟩ v13).setCell ⟨g, 14, none⟩ v14) S e size A n c xs :=
  (h.own_.chg (chg15 (S := One g) (Chg.refl _ _) (.inl rfl)) (fun k hk h1 => by
    cases A with
    | none => exact Of.none hk
    | some a => exact h.ne_blk hb ht a rfl ((Of.some_ hk).symm.trans h1))).mono h.of_sub
end Go.Proofs.YtogjokofmfpmgaaGreatDoor
