/-
  Cards: a card's fields as they should be, the reference's.
-/
import Derived.Test.YtogjokofmfpmgaaGreatDoorGRA
import Derived.Test.YtogjokofmfpmgaaGreatDoorGRB
import Derived.Test.YtogjokofmfpmgaaGreatDoorGRC
import Derived.Test.YtogjokofmfpmgaaGreatDoorGRD
import Derived.Test.YtogjokofmfpmgaaGreatDoorGRF
import Derived.Test.YtogjokofmfpmgaaGreatDoorGAJ
set_option linter.unusedVariables false
set_option linter.unusedSimpArgs false
namespace Go.Proofs.YtogjokofmfpmgaaGreatDoor
open Go.RowKit

set_option maxRecDepth 100000 in
set_option maxHeartbeats 8000000 in
theorem rfields_calls (w : World) (A : Option Addr) (n c : Nat) (l : List Fld) (hn : n = l.length) (hr : Rds w A n 3 (fsE l)) (hb : n ≤ 1000) (hm : ∀ f ∈ l, f.v.length ≤ 1000000) :
    Calls Tryz.prog 110 #[.slice A n c] w fun e w' => CanR w l e w' := by
  obtain ⟨i0, hi, hz0, hz1, hz2⟩ := info_parts fInfo
  have HN := hd hn
  have HR := hd hr
  have HM := hd hm
  clear hn hr hm
  go_enter Tryz.func110, Tryz.ntmps110
  go_wp2_with fail
  go_loopw [5, 6, 7, 4, 2, 3] (fun i _ _ out _ _ wr => ∃ (k : Nat) (B : Option Addr) (d : Nat), i = .int .i64 k ∧ k ≤ n ∧ out = .slice B k d ∧ Hd (∀ f ∈ l.take k, fldE f = 0) ∧ Hd (Row wr (From w.heap.size) 128 3 B k d (fsE ((l.take k).map fldC))) ∧ Hd (Below w.heap.size w wr)) (fun i _ _ _ _ _ _ => n - (intOf i).toNat)
  case atStart => exact ⟨0, none, 0, rfl, Nat.zero_le _, rfl, hd (fun f hf => by simp at hf), hd (Row.nil _ _ _ _), hd (Below.refl _ _)⟩
  case round =>
    obtain ⟨k, B, d, rfl, hk, rfl, HE, HO, HW⟩ := hrel
    obtain ⟨wi, rfl⟩ : ∃ wi : World, wi = wr := ⟨_, rfl⟩
    by_cases hlt : k < n
    · have hlti : decide ((k : Int) < (n : Int)) = true := by simp; omega
      have hkl : k < l.length := by rw [← HN.o]; exact hlt
      obtain ⟨f, hf⟩ : ∃ f, l[k]'hkl = f := ⟨_, rfl⟩
      have hfm := HM.o f (by rw [← hf]; exact List.getElem_mem _)
      have HF := hd hf
      have hr2 := HR.o.below HW.o
      obtain ⟨g, o, rfl, hg, hc⟩ := hr2.at_ (by omega)
      have hcf : ∀ t u, t < 3 → (fEnc f)[t]? = some u → wi.cell? ⟨g, o + k * 3 + t, none⟩ = some u := fun t u ht hv => by
        rw [Nat.add_assoc]
        exact hc _ _ ((fsE_at l k hkl t ht).trans (by rw [hf]; exact hv))
      have c0 := hcf 0 _ (by omega) rfl
      have c1 := hcf 1 _ (by omega) rfl
      have c2 := hcf 2 _ (by omega) rfl
      rw [Nat.add_zero] at c0
      clear hcf hc hr2 hf
      have C1 := rcanon_calls f hfm
      obtain ⟨r, hr⟩ : ∃ r, fldC f = r := ⟨_, rfl⟩
      obtain ⟨re, hre⟩ : ∃ re, fldE f = re := ⟨_, rfl⟩
      rw [hr, hre] at C1
      have HRF := hd hr
      have HRE := hd hre
      obtain ⟨fk, fl, fv⟩ := f
      obtain ⟨rk, rl, rv⟩ := r
      simp only [fldV, fldR] at C1
      have K1 := hd C1
      have HBB := HW
      have HRB := HO
      clear C1 hr hre hfm
      by_cases he : re = 0
      · subst he
        go_wp2_with fail
        refine (K1.o _).mono ?_
        rintro e w2 ⟨rfl, hb2⟩
        have HR2 := hd (HRB.o.below hb2)
        have HW2 := hd (HBB.o.trans (hb2.mono HBB.o.size))
        have hsz := HW2.o.size
        clear hb2 c0 c1 c2
        go_wp2_with (at_builtin; go_loud (refine wpList_append_row rfl _ _ 118 rfl (From w.heap.size) 128 i0 (.agg #[.int .i64 0, .int .i64 0, .string ⟨#[]⟩]) 3 32 Tryz.underlying118 hi hz0 hz1 hz2 rfl B k d (fsE ((l.take k).map fldC)) rfl ((HR2.o.alloc _).alloc _) ⟨_, 0, none⟩ 1 1 [.int .i64 rk, .int .i64 rl, .string (bs rv)] rfl rfl (cells_at (Blk.new_ _ _ (by simp) _ _) rfl) (by simp [Value.oneCell']) (by omega) (by unfold maxLen; omega) (by omega) ?_; intro A2 c2 w3 hown3 hchg3))
        go_roundw
        case rel =>
          refine ⟨k + 1, A2, c2, by go_num, by omega, rfl, hd (fun f hf => ?_), hd ?_, hd ?_⟩
          · rw [List.take_succ_eq_append_getElem hkl] at hf
            rcases List.mem_append.1 hf with hf | hf
            · exact HE.o f hf
            · rw [List.mem_singleton.1 hf, HF.o]; exact HRE.o
          · rw [show fsE ((l.take (k + 1)).map fldC) = fsE ((l.take k).map fldC) ++ [.int .i64 rk, .int .i64 rl, .string (bs rv)] by
              rw [List.take_succ_eq_append_getElem hkl, List.map_append, fsE_app, HF.o]
              simp [fsE, HRF.o, fEnc]]
            exact hown3.mono (fun q hq => by
              rcases hq with hq | hq
              · exact hq
              · simp at hq; show w.heap.size ≤ q; omega)
          · exact HW2.o.trans ((((Chg.refl (From w.heap.size) w2).alloc _).alloc _).trans hchg3 (fun q hq => .inl hq) |>.below (fun _ h => h) hsz)
        case measure => simp [intOf]; omega
      · have nE : (re != 0) = true := by simpa using he
        have HCE := hd (card_err (l := l) (by
          rw [errL_take l k hkl HE.o (by rw [HF.o, HRE.o]; exact he), HF.o, HRE.o]; exact he))
        have HCV := hd (errL_take l k hkl HE.o (by rw [HF.o, HRE.o]; exact he))
        rw [HF.o, HRE.o] at HCV
        clear he
        go_wp2_with fail
        refine (K1.o _).mono ?_
        rintro e w2 ⟨rfl, hb2⟩
        have HW2 := hd (HBB.o.trans (hb2.mono HBB.o.size))
        clear hb2 c0 c1 c2
        go_wp2
        go_ret2
        exact CanR.no ⟨HCE.o.1.trans HCV.o, HCE.o.2⟩ (HW2.o.alloc HW2.o.size _)
    · have hlti : decide ((k : Int) < (n : Int)) = false := by simp; omega
      have hkn : k = n := by omega
      subst hkn
      have htk : l.take k = l := List.take_of_length_le (by rw [← HN.o]; exact Nat.le_refl _)
      rw [htk] at HE HO
      have HER := hd (errL_of HE.o)
      have HLM := hd (show k = (l.map fldC).length by rw [List.length_map]; exact HN.o)
      clear htk hlti
      go_wp2_with fail
      refine (rise_calls wi B k d _ HLM.o HO.o.rds (by omega)).mono ?_
      rintro e w3 ⟨⟨B3, m, d3, rfl, hm, hr3⟩, hb3⟩
      have HMM := hd (show m = (cans l).length from hm)
      have hsw := HW.o.size
      have HR3 := hd (show Row w3 (From w.heap.size) 128 3 B3 m d3 (fsE (cans l)) from hr3.mono (fun q hq => Nat.le_trans hsw hq))
      have HW3 := hd (HW.o.trans (hb3.mono hsw))
      have hml : m ≤ k := by
        rw [hm, HLM.o]; exact rise_len _
      clear hm hr3 hb3 hsw
      obtain ⟨L, hL⟩ : ∃ L, cans l = L := ⟨_, rfl⟩
      have HL := hd hL
      have HMAY := hd (cans_may HER.o)
      rw [hL] at HMM HR3 HMAY
      clear hL
      by_cases h12 : 12 < m
      · have HCE := hd (card_many HER.o (by rw [HL.o, ← HMM.o]; exact h12))
        have h12i : (12 : Int) < (m : Int) := by omega
        go_wp2
        go_ret2
        exact CanR.no HCE.o HW3.o
      · have h12i : ¬ (12 : Int) < (m : Int) := by omega
        have HN12 := hd (show ¬ 12 < (cans l).length by rw [HL.o, ← HMM.o]; exact h12)
        obtain ⟨Y, hY⟩ : ∃ Y, Y = w3.alloc (.cells #[.int .i64 0, .int .i64 0, .int .i64 0, .int .i64 0, .int .i64 0, .int .i64 0, .int .i64 0] 144) := ⟨_, rfl⟩
        obtain ⟨b, hb⟩ : ∃ b, b = w3.heap.size := ⟨_, rfl⟩
        have HYB := hd (show Below w.heap.size w Y by rw [hY]; exact HW3.o.alloc HW3.o.size _)
        have HYR := hd (show Row Y (From w.heap.size) 128 3 B3 m d3 (fsE L) by rw [hY]; exact HR3.o.alloc _)
        have HYC := hd (show Cnts Y b (L.take 0) #[.int .i64 0, .int .i64 0, .int .i64 0, .int .i64 0, .int .i64 0, .int .i64 0, .int .i64 0] from ⟨by rw [hY]; exact Blk.new_ _ _ hb _ _, rfl, fun j hj => by
          match j, hj with
          | 0, _ => rfl
          | 1, _ => rfl
          | 2, _ => rfl
          | 3, _ => rfl
          | 4, _ => rfl
          | 5, _ => rfl
          | 6, _ => rfl⟩)
        have HBW := hd (show w.heap.size ≤ b by rw [hb]; exact HW3.o.size)
        have HYb := hd hb
        have HYy := hd hY
        clear hb hY
        go_wp2_with fail
        rw [← HYy.o, ← HYb.o]
        go_loopw [9] (fun i wr => ∃ (q : Nat) (cs : Array Value), i = .int .i64 q ∧ q ≤ m ∧ Hd (Cnts wr b (L.take q) cs) ∧ Hd (Row wr (From w.heap.size) 128 3 B3 m d3 (fsE L)) ∧ Hd (Below w.heap.size w wr)) (fun i _ => m - (intOf i).toNat)
        case atStart => exact ⟨0, _, rfl, Nat.zero_le _, HYC, HYR, HYB⟩
        case round =>
          obtain ⟨q, cs, rfl, hq, HC, HRQ, HWQ⟩ := hrel
          obtain ⟨wq, rfl⟩ : ∃ wq : World, wq = wr := ⟨_, rfl⟩
          by_cases hlt2 : q < m
          · have hlti : decide ((q : Int) < (m : Int)) = true := by simp; omega
            have hql : q < L.length := by rw [← HMM.o]; exact hlt2
            obtain ⟨f, hf⟩ : ∃ f, L[q]'hql = f := ⟨_, rfl⟩
            have hok := may_ok (HMAY.o f (by rw [← hf]; exact List.getElem_mem _))
            have hk6 : 1 ≤ f.k ∧ f.k ≤ 6 := by unfold okKL at hok; omega
            obtain ⟨kn, hkn⟩ : ∃ kn : Nat, f.k = kn := ⟨f.k.toNat, by omega⟩
            have hk7 : kn < 7 := by omega
            have hk7i : (kn : Int) < 7 := by omega
            have hk0i : (0 : Int) ≤ (kn : Int) := by omega
            have HFK := hd (show (L[q]'hql).k = (kn : Int) by rw [hf]; exact hkn)
            obtain ⟨g, hA, _, hg, _, _, hcl, _⟩ := HRQ.o.at_ (by omega)
            have hcf : ∀ t u, t < 3 → (fEnc f)[t]? = some u → wq.cell? ⟨g, q * 3 + t, none⟩ = some u := fun t u ht hv => hcl _ _ ((fsE_at L q hql t ht).trans (by rw [hf]; exact hv))
            have c0 := hcf 0 _ (by omega) rfl
            have c1 := hcf 1 _ (by omega) rfl
            have c2 := hcf 2 _ (by omega) rfl
            rw [Nat.add_zero] at c0
            have hne := HRQ.o.ne_blk HC.o.blk (by decide)
            have HNE := hd hne
            have cb := HC.o.blk.at_ kn (HC.o.at_ kn hk7)
            have fb := HC.o.blk.frozen kn
            have hblt := HC.o.blk.lt
            have hcle := cnt_le (kn : Int) (L.take q)
            rw [List.length_take] at hcle
            have HUP := hd (fun (W : World) (hw : Blk W b 144 cs) => HC.o.up hql HFK.o hk7 hw)
            obtain ⟨z, hz⟩ : ∃ z, cntK (kn : Int) (L.take q) = z := ⟨_, rfl⟩
            rw [hz] at cb hcle HUP
            have HBK := hd (HC.o.blk)
            obtain ⟨fk, fl, fv⟩ := f
            simp only at hkn
            subst hkn
            subst hA
            clear hcf hcl hf hok hk6 hne hz
            go_wp2
            go_roundw
            case rel =>
              refine ⟨q + 1, _, by go_num, by omega, hd (HUP.o _ HBK.o), hd ?_, hd ?_⟩
              · exact HRQ.o.far (fun a ha => HNE.o a ha) _
              · exact HWQ.o.setCell HBW.o _
            case measure => simp [intOf]; omega
          · have hlti : decide ((q : Int) < (m : Int)) = false := by simp; omega
            have hqm : q = m := by omega
            subst hqm
            have htk : L.take q = L := List.take_of_length_le (by rw [← HMM.o]; exact Nat.le_refl _)
            have b1 := HC.o.blk.at_ 1 (HC.o.at_ 1 (by omega))
            have b2 := HC.o.blk.at_ 2 (HC.o.at_ 2 (by omega))
            have b5 := HC.o.blk.at_ 5 (HC.o.at_ 5 (by omega))
            rw [htk] at b1 b2 b5
            have HCP := hd (show CntP L ↔ cntK ((1 : Nat) : Int) L = 1 ∧ cntK ((2 : Nat) : Int) L ≤ 1 ∧ cntK ((5 : Nat) : Int) L ≤ 1 from Iff.rfl)
            obtain ⟨z1, hz1⟩ : ∃ z, cntK ((1 : Nat) : Int) L = z := ⟨_, rfl⟩
            obtain ⟨z2, hz2⟩ : ∃ z, cntK ((2 : Nat) : Int) L = z := ⟨_, rfl⟩
            obtain ⟨z5, hz5⟩ : ∃ z, cntK ((5 : Nat) : Int) L = z := ⟨_, rfl⟩
            rw [hz1] at b1 HCP
            rw [hz2] at b2 HCP
            rw [hz5] at b5 HCP
            clear hz1 hz2 hz5 htk hlti
            by_cases e1 : z1 = 1
            · subst e1
              by_cases e2 : z2 ≤ 1
              · have e2i : ¬ (1 : Int) < (z2 : Int) := by omega
                by_cases e5 : z5 ≤ 1
                · have e5i : ¬ (1 : Int) < (z5 : Int) := by omega
                  have HCPL := hd (HCP.o.2 ⟨rfl, e2, e5⟩)
                  have HTX := hd (rlines_calls wq B3 q d3 L HMM.o HRQ.o.rds (by omega) (fun f hf => by have := may_len (HMAY.o f hf); omega))
                  obtain ⟨T, hT⟩ : ∃ T, textL L = T := ⟨_, rfl⟩
                  rw [hT] at HTX
                  have HTL := hd hT
                  have hts : (bs T).size = T.length := bs_size T
                  clear e2 e5 hT
                  by_cases h9 : 900 < T.length
                  · have HCE := hd (card_long HER.o HN12.o (by rw [HL.o]; exact HCPL.o) (by rw [HL.o, HTL.o]; exact h9))
                    have h9i : (900 : Int) < (T.length : Int) := by omega
                    go_wp2_with fail
                    refine HTX.o.mono ?_
                    rintro e w4 ⟨rfl, hb4⟩
                    have HW4 := hd (HWQ.o.trans (hb4.mono HWQ.o.size))
                    clear hb4
                    go_wp2
                    go_ret2
                    exact CanR.no HCE.o HW4.o
                  · have HCE := hd (card_good HER.o HN12.o (by rw [HL.o]; exact HCPL.o) (by rw [HL.o, HTL.o]; exact h9))
                    have h9i : ¬ (900 : Int) < (T.length : Int) := by omega
                    go_wp2_with fail
                    refine HTX.o.mono ?_
                    rintro e w4 ⟨rfl, hb4⟩
                    have HR4 := hd (HRQ.o.below hb4)
                    have HW4 := hd (HWQ.o.trans (hb4.mono HWQ.o.size))
                    clear hb4
                    go_wp2
                    go_ret2
                    exact ⟨⟨B3, q, d3, ret2 HCE.o.1.symm, by rw [HCE.o.2, HL.o]; exact HMM.o, by rw [HCE.o.2, HL.o]; exact HR4.o, HW4.o⟩⟩
                · have e5i : (1 : Int) < (z5 : Int) := by omega
                  have HCE := hd (card_cnt HER.o HN12.o (by rw [HL.o]; exact fun h => e5 (HCP.o.1 h).2.2))
                  clear e2 e5
                  go_wp2
                  go_ret2
                  exact CanR.no HCE.o HWQ.o
              · have e2i : (1 : Int) < (z2 : Int) := by omega
                have HCE := hd (card_cnt HER.o HN12.o (by rw [HL.o]; exact fun h => e2 (HCP.o.1 h).2.1))
                clear e2
                go_wp2
                go_ret2
                exact CanR.no HCE.o HWQ.o
            · have e1i : ((z1 : Int) != 1) = true := by simp; omega
              have HCE := hd (card_cnt HER.o HN12.o (by rw [HL.o]; exact fun h => e1 (HCP.o.1 h).1))
              clear e1
              go_wp2
              go_ret2
              exact CanR.no HCE.o HWQ.o

end Go.Proofs.YtogjokofmfpmgaaGreatDoor
namespace Go.Proofs.YtogjokofmfpmgaaGreatDoor
open Go.RowKit

set_option maxRecDepth 100000 in
set_option maxHeartbeats 2000000 in
theorem rtext_calls (w : World) (A : Option Addr) (n c : Nat) (l : List Fld) (hn : n = l.length) (hr : Rds w A n 3 (fsE l)) (hb : n ≤ 1000) (hm : ∀ f ∈ l, f.v.length ≤ 1000000) :
    Calls Tryz.prog 103 #[.slice A n c] w fun e w' => e = .returned (.tuple #[.string (bs (cardT l)), .int .i64 (cardE l)]) ∧ Below w.heap.size w w' := by
  have C1 := hd (rfields_calls w A n c l hn hr hb hm)
  clear hn hr hm
  obtain ⟨T, hT⟩ : ∃ T, cardT l = T := ⟨_, rfl⟩
  have HTT := hd hT
  rw [hT]
  clear hT
  go_enter Tryz.func103, Tryz.ntmps103
  go_wp2_with fail
  refine C1.o.mono ?_
  rintro e w1 ⟨⟨B, m, d, rfl, hm, hr, hb1⟩⟩
  have HB1 := hd hb1
  have HM := hd hm
  have HR := hd hr
  clear hm hr hb1
  by_cases he : cardE l = 0
  · have HOK := hd (cardT_ok he)
    have hm12 : m ≤ 12 := by rw [HM.o]; exact HOK.o.2.1
    have C2 := hd (rlines_calls w1 B m d (cardC l) HM.o HR.o.rds (by omega) (fun f hf => by have := may_len (HOK.o.2.2 f hf); omega))
    rw [← HOK.o.1, HTT.o] at C2
    have HE0 := hd he
    rw [he]
    clear he
    go_wp2_with fail
    refine C2.o.mono ?_
    rintro e w2 ⟨rfl, hb2⟩
    have HB2 := hd (HB1.o.trans (hb2.mono HB1.o.size))
    clear hb2
    go_wp2
    go_ret2
    exact ⟨retTE2 rfl HE0.o.symm, HB2.o⟩
  · have HNO := hd (cardT_no he)
    have nE : (cardE l != 0) = true := by simpa using he
    obtain ⟨ce, hce⟩ : ∃ ce, cardE l = ce := ⟨_, rfl⟩
    rw [hce] at nE
    rw [hce]
    have HCE := hd hce
    clear he hce
    go_wp2
    go_ret2
    exact ⟨retTE2 (by rw [← HTT.o, HNO.o]; rfl) HCE.o.symm, HB1.o⟩

end Go.Proofs.YtogjokofmfpmgaaGreatDoor
namespace Go.Proofs.YtogjokofmfpmgaaGreatDoor
open Go.RowKit

theorem raw_at {S : List UInt8} {f : Fld} (h : Found S f) : (headL f.k f.l ++ [58]).length ≤ S.length ∧ S.take (headL f.k f.l ++ [58]).length = headL f.k f.l ++ [58] ∧ S.drop (headL f.k f.l ++ [58]).length = f.v := by
  have e : S = (headL f.k f.l ++ [58]) ++ f.v := by rw [← h.2]; simp [rawL]
  rw [e]
  refine ⟨by simp, ?_, ?_⟩
  · rw [List.take_append_of_le_length (Nat.le_refl _), List.take_length]
  · rw [List.drop_append_of_le_length (Nat.le_refl _), List.drop_length, List.nil_append]
theorem found_of {S : List UInt8} {k l : Int} (ht : S.take (headL k l ++ [58]).length = headL k l ++ [58]) (hm : MayF ⟨k, l, S.drop (headL k l ++ [58]).length⟩) : Found S ⟨k, l, S.drop (headL k l ++ [58]).length⟩ := by
  refine ⟨hm, ?_⟩
  have : rawL ⟨k, l, S.drop (headL k l ++ [58]).length⟩ = (headL k l ++ [58]) ++ S.drop (headL k l ++ [58]).length := by simp [rawL]
  rw [this]
  conv => rhs; rw [← List.take_append_drop (headL k l ++ [58]).length S]
  rw [ht]
theorem ext_take (s : ByteArray) (n : Nat) : (s.extract 0 n).data.toList = s.data.toList.take n := by rw [ext_data]; simp
theorem ext_drop (s : ByteArray) (n : Nat) : (s.extract n s.size).data.toList = s.data.toList.drop n := by
  rw [ext_data]
  exact List.take_of_length_le (by rw [List.length_drop]; simp)

theorem retF' {f g : Fld} {v : Value} {e a : Int} (h : fldV f = v) (h1 : f = g) (h2 : a = e) : Ending.returned (.tuple #[v, .int .i64 a]) = .returned (fldR g e) := by
  rw [← h, h1, h2]; rfl

set_option maxRecDepth 100000 in
set_option maxHeartbeats 4000000 in
theorem rfparse_calls (s : ByteArray) (hs : s.size ≤ 1000000) (w : World) : Calls Tryz.prog 102 #[.string s] w fun e w' => e = .returned (fldR (parF s.data.toList) (parE s.data.toList)) ∧ Below w.heap.size w w' := by
  obtain ⟨V, hV⟩ : ∃ V, parF s.data.toList = V := ⟨_, rfl⟩
  obtain ⟨F, hF⟩ : ∃ F, parE s.data.toList = F := ⟨_, rfl⟩
  rw [hV, hF]
  have HY : Hd (∀ f, Found s.data.toList f → V = f ∧ F = 0) := hd (fun f hf => by rw [← hV, ← hF]; exact par_yes hf)
  have HN : Hd ((∀ f, ¬ Found s.data.toList f) → V = noFld ∧ F = 1) := hd (fun h => by rw [← hV, ← hF]; exact par_no h)
  clear hV hF
  have HSL := hd (show s.data.toList.length = s.size by simp)
  obtain ⟨S, hS⟩ : ∃ S, s.data.toList = S := ⟨_, rfl⟩
  have HS := hd hS
  rw [hS] at HY HN HSL
  clear hS
  obtain ⟨X, hX⟩ : ∃ X, X = w.alloc (.cells #[.int .i64 0, .int .i64 0, .string ⟨#[]⟩] 128) := ⟨_, rfl⟩
  have HB0 := hd (show Below w.heap.size w X by rw [hX]; exact (Below.refl _ w).alloc (Nat.le_refl _) _)
  have HK := hd (show Blk X w.heap.size 128 #[.int .i64 0, .int .i64 0, .string ⟨#[]⟩] by rw [hX]; exact Blk.new _ _ _)
  have HX := hd (show X.heap.size = w.heap.size + 1 by rw [hX]; simp)
  have hx := hd hX
  clear hX
  obtain ⟨Y, hY⟩ : ∃ Y, Y = (X.alloc (.cells wordsC 9)).alloc (.cells labelsC 9) := ⟨_, rfl⟩
  have HBY := hd (show Below X.heap.size X Y by rw [hY]; exact twoB _ _ _)
  have HYX := hd (show Y.heap.size = X.heap.size + 2 by rw [hY]; simp)
  have HKW := hd (show Blk Y X.heap.size 9 wordsC by rw [hY]; exact (Blk.new _ _ _).alloc _)
  have HKL := hd (show Blk Y (X.heap.size + 1) 9 labelsC by rw [hY]; exact Blk.new_ _ _ (by simp) _ _)
  have hy := hd hY
  clear hY
  go_enter Tryz.func102, Tryz.ntmps102
  go_wp2_with fail
  rw [← hx.o]
  refine (words_calls X).mono ?_
  rintro e w1 ⟨rfl, rfl⟩
  go_wp2_with fail
  refine (labels_calls _).mono ?_
  rintro e w1 ⟨rfl, rfl⟩
  rw [← hy.o]
  rw [show (X.alloc (.cells wordsC 9)).heap.size = X.heap.size + 1 by simp]
  go_wp2_with fail
  go_loopw [6, 7, 8, 9, 3] (fun k _ _ _ _ wr => ∃ q : Nat, k = .int .i64 q ∧ 1 ≤ q ∧ q ≤ 7 ∧ Hd (From1 S q) ∧ Below Y.heap.size Y wr) (fun k _ _ _ _ _ => 7 - (intOf k).toNat)
  case atStart => exact ⟨1, rfl, by omega, by omega, hd (from1_0 S), Below.refl _ _⟩
  case round =>
    obtain ⟨q, rfl, hq1, hq7, hf, hbe⟩ := hrel
    obtain ⟨wo, rfl⟩ : ∃ wo : World, wo = wr := ⟨_, rfl⟩
    have HBO := hd hbe
    clear hbe
    by_cases hlt : q < 7
    · have hq6 : (q : Int) ≤ 6 := by omega
      have hq6' : decide ((q : Int) ≤ 6) = true := by simpa using hq6
      go_wp2_with fail
      go_loopw [7, 8, 9, 3] (fun l _ _ _ wr => ∃ r : Nat, l = .int .i64 r ∧ r ≤ 4 ∧ Hd (From2 S q r) ∧ Below Y.heap.size Y wr) (fun l _ _ _ _ => 4 - (intOf l).toNat)
      case atStart => exact ⟨0, rfl, by omega, hd (from2_0 hf.o), HBO.o⟩
      case round =>
        obtain ⟨r, rfl, hr4, hg, hbe⟩ := hrel
        obtain ⟨wi, rfl⟩ : ∃ wi : World, wi = wr := ⟨_, rfl⟩
        have HBI := hd hbe
        clear hbe
        by_cases hlt4 : r < 4
        · have hr4' : (r : Int) < 4 := by omega
          have hr4'' : decide ((r : Int) < 4) = true := by simpa using hr4'
          have hq7' : (q : Int) < 7 := by omega
          have hq0 : (0 : Int) ≤ (q : Int) := by omega
          have hr0 : (0 : Int) ≤ (r : Int) := by omega
          have cw := (HKW.o.below HBI.o (by rw [HYX.o]; omega)).at_ q (words_at q hlt)
          have cl := (HKL.o.below HBI.o (by rw [HYX.o]; omega)).at_ r (labels_at r hlt4)
          have hlk := kindL_len q
          have hll := labL_len r
          have hsum : bs (kindL q) ++ bs (labL r) ++ ⟨#[58]⟩ = bs (headL q r ++ [58]) := by
            rw [show (⟨#[58]⟩ : ByteArray) = bs [58] from rfl, bs_app2, bs_app2]; rfl
          have hnl : (headL q r ++ [58]).length ≤ 10 := by simp [headL]; omega
          rw [← bs_size] at hlk hll
          have HNF := hd (fun f (hf : Found S f) (e1 : f.k = q) (e2 : f.l = r) => (by have := raw_at hf; rwa [e1, e2] at this : (headL q r ++ [58]).length ≤ S.length ∧ S.take (headL q r ++ [58]).length = headL q r ++ [58] ∧ S.drop (headL q r ++ [58]).length = f.v))
          have HFO := hd (found_of (S := S) (k := q) (l := r))
          obtain ⟨P, hP⟩ : ∃ P, headL q r ++ [58] = P := ⟨_, rfl⟩
          obtain ⟨n, hn⟩ : ∃ n, P.length = n := ⟨_, rfl⟩
          obtain ⟨K, hK⟩ : ∃ K, bs (kindL q) = K := ⟨_, rfl⟩
          obtain ⟨B, hB⟩ : ∃ B, bs (labL r) = B := ⟨_, rfl⟩
          rw [hP, hn] at HNF HFO
          rw [hP] at hsum hnl
          rw [hn] at hnl
          rw [hK] at cw hsum hlk
          rw [hB] at cl hsum hll
          have zs1 : (K ++ B).size = K.size + B.size := ByteArray.size_append
          have zs2 : (K ++ B ++ ⟨#[58]⟩).size = n := by rw [hsum, bs_size, hn]
          have HP := hd hsum
          clear hsum hP hn hK hB
          by_cases hlen : s.size < n
          · have HN2 := hd (from2_no hg.o (fun f hf e1 e2 => by have := (HNF.o f hf e1 e2).1; rw [HSL.o] at this; omega))
            have hlenI : (s.size : Int) < (n : Int) := by omega
            clear HFO
            go_wp2_with fail
            go_quiet (fail)
            go_wp2
            go_roundw
            case rel => exact ⟨r + 1, by go_num, by omega, HN2, bdrewN HBI.o _⟩
            case measure => simp [intOf]; omega
          · have hlenI : ¬ (s.size : Int) < (n : Int) := by omega
            have hlenI2 : (n : Int) ≤ (s.size : Int) := by omega
            have hn0 : (0 : Int) ≤ (n : Int) := by omega
            have hcmp : ((s.extract 0 n).toList == (K ++ B ++ ⟨#[58]⟩).toList) = decide (S.take n = P) := by
              rw [HP.o, bs_toL, Lib.toList_data, ext_take, HS.o]
              by_cases h : S.take n = P <;> simp [h]
            by_cases he : S.take n = P
            · rw [decide_eq_true he] at hcmp
              have hA : (s.extract n s.size).data.toList = S.drop n := by rw [ext_drop, HS.o]
              have hA2 : bs (S.drop n) = s.extract n s.size := by rw [← hA]; exact bs_self _
              have hAl : (S.drop n).length ≤ 1000000 := by rw [List.length_drop, HSL.o]; omega
              have K3 := hd (rfmay_calls ⟨q, r, S.drop n⟩ hAl)
              simp only [fldV] at K3
              rw [hA2] at K3
              have HA2 := hd hA2
              by_cases hm : MayF ⟨q, r, S.drop n⟩
              · have HFD := hd (HY.o _ (HFO.o he hm))
                rw [mayF_t hm] at K3
                clear he hm HFO HNF hA hA2 hAl
                go_wp2_with fail
                go_quiet (fail)
                obtain ⟨wj, hwj⟩ : ∃ wj, wj = wi.drewN nq := ⟨_, rfl⟩
                have HBJ := hd (show Below Y.heap.size Y wj by rw [hwj]; exact bdrewN HBI.o _)
                rw [← hwj]
                clear hwj cw cl
                have HBA := hd (HBJ.o.alloc HBJ.o.size (.cells #[.int .i64 q, .int .i64 r, .string (s.extract n s.size)] 128))
                have HBOX := hd (Blk.new wj 128 #[.int .i64 q, .int .i64 r, .string (s.extract n s.size)])
                go_wp2_with fail
                refine (K3.o _).mono ?_
                rintro e w2 ⟨rfl, hb2⟩
                have HB2 := hd (HBA.o.trans (hb2.mono HBA.o.size))
                have HBW := hd (HBY.o.trans (HB2.o.mono (by rw [HYX.o]; omega)))
                have k1 := HK.o.below HBW.o (by rw [HX.o]; omega)
                have k2 := HBOX.o.below hb2 (by simp)
                have b0 := k1.at_ 0 rfl
                have b1 := k1.at_ 1 rfl
                have b2 := k1.at_ 2 rfl
                have g0 := k1.frozen 0
                have g1 := k1.frozen 1
                have g2 := k1.frozen 2
                have a0 := k2.at_ 0 rfl
                have a1 := k2.at_ 1 rfl
                have a2 := k2.at_ 2 rfl
                have hl := k1.lt
                have hl2 := k2.lt
                have Q1 := hd k1
                clear k1 k2 hb2
                go_wp2
                (try simp only [Exit.inBlock, Exit.then])
                refine bodyPost_ret (res_cell rfl _ _ _ _ _ _ _ rfl (((Q1.o.set_ 0 _).set_ 1 _).set_ 2 _) rfl rfl rfl) rfl ⟨?_, ?_⟩
                · refine retF' (f := ⟨q, r, S.drop n⟩) ?_ HFD.o.1.symm HFD.o.2.symm
                  show fldV ⟨q, r, S.drop n⟩ = _
                  simp only [fldV, HA2.o]
                  rfl
                · exact ((((HB0.o.trans (HBW.o.mono (by rw [HX.o]; omega))).setCell (Nat.le_refl _) _).setCell (Nat.le_refl _) _).setCell (Nat.le_refl _) _)
              · have HN2 := hd (from2_no hg.o (fun f hf e1 e2 => hm (by
                  have := (HNF.o f hf e1 e2).2.2
                  obtain ⟨fk, fl, fv⟩ := f
                  simp only at e1 e2 this
                  rw [this, ← e1, ← e2]
                  exact hf.1)))
                rw [mayF_f hm] at K3
                clear he hm HFO HNF hA hA2 hAl
                go_wp2_with fail
                go_quiet (fail)
                obtain ⟨wj, hwj⟩ : ∃ wj, wj = wi.drewN nq := ⟨_, rfl⟩
                have HBJ := hd (show Below Y.heap.size Y wj by rw [hwj]; exact bdrewN HBI.o _)
                rw [← hwj]
                clear hwj cw cl
                have HBA := hd (HBJ.o.alloc HBJ.o.size (.cells #[.int .i64 q, .int .i64 r, .string (s.extract n s.size)] 128))
                have HBOX := hd (Blk.new wj 128 #[.int .i64 q, .int .i64 r, .string (s.extract n s.size)])
                go_wp2_with fail
                refine (K3.o _).mono ?_
                rintro e w2 ⟨rfl, hb2⟩
                have HB2 := hd (HBA.o.trans (hb2.mono HBA.o.size))
                clear hb2
                go_wp2
                go_roundw
                case rel => exact ⟨r + 1, by go_num, by omega, HN2, HB2.o⟩
                case measure => simp [intOf]; omega
            · have HN2 := hd (from2_no hg.o (fun f hf e1 e2 => he (HNF.o f hf e1 e2).2.1))
              rw [decide_eq_false he] at hcmp
              clear he HFO HNF
              go_wp2_with fail
              go_quiet (fail)
              go_wp2
              go_roundw
              case rel => exact ⟨r + 1, by go_num, by omega, HN2, bdrewN HBI.o _⟩
              case measure => simp [intOf]; omega
        · have hr : r = 4 := by omega
          subst hr
          have HN2 := hd (from2_up hg.o)
          go_wp2
          go_roundw
          case rel => exact ⟨q + 1, by go_num, by omega, by omega, HN2, HBI.o⟩
          case measure => simp [intOf]; omega
    · have hq : q = 7 := by omega
      subst hq
      have HX2 := hd (HN.o (from1_end hf.o))
      have HBW := hd (HBY.o.trans (HBO.o.mono (by rw [HYX.o]; omega)))
      have k1 := HK.o.below HBW.o (by rw [HX.o]; omega)
      have b0 := k1.at_ 0 rfl
      have b1 := k1.at_ 1 rfl
      have b2 := k1.at_ 2 rfl
      have g0 := k1.frozen 0
      have g1 := k1.frozen 1
      have g2 := k1.frozen 2
      have hl := k1.lt
      have K1 := hd k1
      clear k1
      go_wp2
      (try simp only [Exit.inBlock, Exit.then])
      refine bodyPost_ret (res_cell rfl _ _ _ _ _ _ _ rfl (((K1.o.set_ 0 _).set_ 1 _).set_ 2 _) rfl rfl rfl) rfl ⟨?_, ?_⟩
      · exact retF (f := noFld) (a := 1) HX2.o.1.symm HX2.o.2.symm
      · exact ((((HB0.o.trans (HBW.o.mono (by rw [HX.o]; omega))).setCell (Nat.le_refl _) _).setCell (Nat.le_refl _) _).setCell (Nat.le_refl _) _)

end Go.Proofs.YtogjokofmfpmgaaGreatDoor
namespace Go.Proofs.YtogjokofmfpmgaaGreatDoor
open Go.RowKit

theorem sofar_next2 {S r a b : List UInt8} {L : List Fld} {f : Fld} (h : Sofar S L r) (hr : r = a ++ 10 :: b) (hf : Found a f) : Sofar S (L ++ [f]) b := by
  refine ⟨fun g hg => ?_, ?_⟩
  · rcases List.mem_append.1 hg with hg | hg
    · exact h.may g hg
    · rw [List.mem_singleton.1 hg]; exact hf.1
  · rw [textL_snoc, found_line hf, h.eq, hr]
    simp
theorem drop_cut (S : List UInt8) (p i : Nat) (hp : p ≤ i) (hi : i < S.length) (h10 : S[i] = 10) : S.drop p = (S.drop p).take (i - p) ++ 10 :: S.drop (i + 1) := by
  conv => lhs; rw [← List.take_append_drop (i - p) (S.drop p), List.drop_drop]
  rw [show p + (i - p) = i by omega, List.drop_eq_getElem_cons hi, h10]
/-- No end of a line between the two. -/
def No10 (S : List UInt8) (p i : Nat) : Prop := (10 : UInt8) ∉ (S.drop p).take (i - p)
theorem no10_self (S : List UInt8) (p : Nat) : No10 S p p := by unfold No10; simp
theorem no10_next {S : List UInt8} {p i : Nat} (h : No10 S p i) (hp : p ≤ i) (hi : i < S.length) (hn : S[i] ≠ 10) : No10 S p (i + 1) := by
  unfold No10 at *
  rw [show i + 1 - p = (i - p) + 1 by omega, List.take_succ_eq_append_getElem (by rw [List.length_drop]; omega)]
  intro hm
  rcases List.mem_append.1 hm with hm | hm
  · exact h hm
  · have := List.mem_singleton.1 hm
    rw [List.getElem_drop] at this
    have e : p + (i - p) = i := by omega
    simp only [e] at this
    exact hn this.symm

set_option maxRecDepth 100000 in
set_option maxHeartbeats 8000000 in
theorem rcparse_calls (s : ByteArray) (hs : s.size ≤ 1000000) (w : World) : Calls Tryz.prog 93 #[.string s] w fun e w' => ParR w s.data.toList e w' := by
  obtain ⟨i0, hi, hz0, hz1, hz2⟩ := info_parts fInfo
  have HSL := hd (show s.data.toList.length = s.size by simp)
  obtain ⟨S, hS⟩ : ∃ S, s.data.toList = S := ⟨_, rfl⟩
  have HS := hd hS
  rw [hS] at HSL ⊢
  clear hS
  by_cases h9 : 900 < s.size
  · have HNO := hd (show ∀ l, ¬ Reads S l from fun l h => by have := (reads_len h).1; rw [HSL.o] at this; omega)
    have h9i : (900 : Int) < (s.size : Int) := by omega
    go_enter Tryz.func93, Tryz.ntmps93
    go_wp2
    go_ret2
    exact ParR.no HNO.o (Below.refl _ _)
  · have h9i : ¬ (900 : Int) < (s.size : Int) := by omega
    go_enter Tryz.func93, Tryz.ntmps93
    go_wp2_with fail
    go_loopw [6, 5, 7, 8, 4, 2, 3] (fun i from_ _ _ out _ _ wr => ∃ (q p : Nat) (L : List Fld) (B : Option Addr) (k d : Nat), i = .int .i64 q ∧ from_ = .int .i64 p ∧ p ≤ q ∧ q ≤ s.size ∧ out = .slice B k d ∧ k ≤ p ∧ Hd (k = L.length) ∧ Hd (No10 S p q) ∧ Hd (Sofar S L (S.drop p)) ∧ Hd (Row wr (From w.heap.size) 128 3 B k d (fsE L)) ∧ Hd (Below w.heap.size w wr)) (fun i _ _ _ _ _ _ _ => s.size - (intOf i).toNat)
    case atStart => exact ⟨0, 0, [], none, 0, 0, rfl, rfl, Nat.le_refl _, Nat.zero_le _, rfl, Nat.le_refl _, hd rfl, hd (no10_self _ _), hd (sofar_0 S), hd (Row.nil _ _ _ _), hd (Below.refl _ _)⟩
    case round =>
      obtain ⟨q, p, L, B, k, d, rfl, rfl, hpq, hqs, rfl, hkp, HK, H10, HSO, HRO, HW⟩ := hrel
      obtain ⟨wi, rfl⟩ : ∃ wi : World, wi = wr := ⟨_, rfl⟩
      by_cases hlt : q < s.size
      · have hlti : decide ((q : Int) < (s.size : Int)) = true := by simp; omega
        have hq0 : (0 : Int) ≤ (q : Int) := by omega
        have hp0 : (0 : Int) ≤ (p : Int) := by omega
        have hpqi : (p : Int) ≤ (q : Int) := by omega
        have hqsi : (q : Int) ≤ (s.size : Int) := by omega
        have hqS : q < S.length := by rw [HSL.o]; exact hlt
        have BQ := bt_self s q hlt
        rw [HS.o, bt_list S q hqS] at BQ
        by_cases h10 : s[q].toNat = 10
        · have n1 : ((s[q].toNat : Int) == 10) = true := by simp; omega
          have hS10 : S[q] = 10 := UInt8.toNat_inj.1 (by rw [BQ]; exact h10)
          have HCUTE := hd (drop_cut S p q hpq hqS hS10)
          have hdat : (s.extract p q).data.toList = (S.drop p).take (q - p) := by rw [ext_data, HS.o]
          have hesz : (s.extract p q).size ≤ 900 := by rw [ByteArray.size_extract]; omega
          have HCUT := hd (fun m (h : Reads S m) => reads_cut HSO.o.may (show S = textL L ++ ((S.drop p).take (q - p) ++ 10 :: S.drop (q + 1)) by rw [← HCUTE.o]; exact HSO.o.eq) H10.o h)
          have HNX := hd (fun f (h : Found ((S.drop p).take (q - p)) f) => sofar_next2 HSO.o HCUTE.o h)
          have C2 := fun W => rfparse_calls (s.extract p q) (by omega) W
          rw [hdat] at C2
          clear BQ h10 hS10 hdat
          rcases par_or ((S.drop p).take (q - p)) with ⟨f, hf, e1, e2⟩ | ⟨hno, e1, e2⟩
          · rw [e1, e2] at C2
            have HSN := hd (HNX.o f hf)
            obtain ⟨fk, fl, fv⟩ := f
            simp only [fldR, fldV] at C2
            have K2 := hd C2
            clear C2 e1 e2 hf HCUT HNX HCUTE
            go_wp2_with fail
            refine (K2.o _).mono ?_
            rintro e w3 ⟨rfl, hb3⟩
            have HW3 := hd (HW.o.trans (hb3.mono HW.o.size))
            have HR3 := hd (HRO.o.below hb3)
            have hsw := HW3.o.size
            clear hb3
            go_wp2_with (at_builtin; go_loud (refine wpList_append_row rfl _ _ 118 rfl (From w.heap.size) 128 i0 (.agg #[.int .i64 0, .int .i64 0, .string ⟨#[]⟩]) 3 32 Tryz.underlying118 hi hz0 hz1 hz2 rfl B k d (fsE L) rfl ((HR3.o.alloc _).alloc _) ⟨_, 0, none⟩ 1 1 [.int .i64 fk, .int .i64 fl, .string (bs fv)] rfl rfl (cells_at (Blk.new_ _ _ (by simp) _ _) rfl) (by simp [Value.oneCell']) (by omega) (by unfold maxLen; omega) (by omega) ?_; intro A2 c2 w4 hown4 hchg4))
            go_roundw
            case rel =>
              refine ⟨q + 1, q + 1, L ++ [⟨fk, fl, fv⟩], A2, k + 1, c2, by go_num, by go_num, by omega, by omega, rfl, by omega, hd (by rw [List.length_append, HK.o]; rfl), hd (no10_self _ _), HSN, hd ?_, hd ?_⟩
              · rw [fsE_snoc]
                exact hown4.mono (fun q hq => by
                  rcases hq with hq | hq
                  · exact hq
                  · simp at hq; show w.heap.size ≤ q; omega)
              · exact HW3.o.trans ((((Chg.refl (From w.heap.size) w3).alloc _).alloc _).trans hchg4 (fun q hq => .inl hq) |>.below (fun _ h => h) hsw)
            case measure => simp [intOf]; omega
          · rw [e1, e2] at C2
            have HNO := hd (show ∀ l, ¬ Reads S l from fun m h => by obtain ⟨f, hf⟩ := HCUT.o m h; exact hno f hf)
            simp only [fldR, fldV, noFld] at C2
            have K2 := hd C2
            clear C2 e1 e2 hno HCUT HNX HCUTE
            go_wp2_with fail
            refine (K2.o _).mono ?_
            rintro e w3 ⟨rfl, hb3⟩
            have HW3 := hd (HW.o.trans (hb3.mono HW.o.size))
            clear hb3
            go_wp2
            go_ret2
            exact ParR.no HNO.o (HW3.o.alloc HW3.o.size _)
        · have n1 : ((s[q].toNat : Int) == 10) = false := by simp; omega
          have HN2 := hd (no10_next H10.o hpq hqS (fun e => h10 (by rw [← BQ, e]; rfl)))
          clear BQ h10
          go_wp2
          go_roundw
          case rel => exact ⟨q + 1, p, L, B, k, d, by go_num, rfl, by omega, by omega, rfl, hkp, HK, HN2, HSO, HRO, HW⟩
          case measure => simp [intOf]; omega
      · have hlti : decide ((q : Int) < (s.size : Int)) = false := by simp; omega
        have hN : (10 : UInt8) ∉ S.drop p := by
          have := H10.o
          unfold No10 at this
          rwa [List.take_of_length_le (by rw [List.length_drop, HSL.o]; omega)] at this
        have HND := hd (fun m (h : Reads S m) => (reads_end HSO.o.may HSO.o.eq hN h).1)
        have HOF := hd (fun (h1 : cardE L = 0) (h2 : cardT L = S) => reads_of HSO.o.may HSO.o.eq h1 h2)
        have C1 := hd (rtext_calls wi B k d L HK.o HRO.o.rds (by omega) (fun f hf => by have := may_len (HSO.o.may f hf); omega))
        have heq : ((bs (cardT L)).toList == s.toList) = decide (cardT L = S) := by rw [bt_eqL, HS.o]
        clear hN
        by_cases hg : cardE L = 0 ∧ cardT L = S
        · have HRD := hd (HOF.o hg.1 hg.2)
          rw [hg.1] at C1
          rw [decide_eq_true hg.2] at heq
          generalize bs (cardT L) = T at C1 heq
          clear hg
          go_wp2_with fail
          refine C1.o.mono ?_
          rintro e w2 ⟨rfl, hb2⟩
          have HR2 := hd (HRO.o.below hb2)
          have HW2 := hd (HW.o.trans (hb2.mono HW.o.size))
          clear hb2
          go_wp2
          go_ret2
          exact ParR.yes HRD.o HK.o HR2.o HW2.o
        · have HNO := hd (show ∀ l, ¬ Reads S l from fun m h => by
            have e := HND.o m h
            subst e
            exact hg (reads_text h))
          by_cases he : cardE L = 0
          · have hne : ¬ cardT L = S := fun h => hg ⟨he, h⟩
            rw [he] at C1
            rw [decide_eq_false hne] at heq
            generalize bs (cardT L) = T at C1 heq
            clear hg he hne
            go_wp2_with fail
            refine C1.o.mono ?_
            rintro e w2 ⟨rfl, hb2⟩
            have HW2 := hd (HW.o.trans (hb2.mono HW.o.size))
            clear hb2
            go_wp2
            go_ret2
            exact ParR.no HNO.o HW2.o
          · have nE : (cardE L != 0) = true := by simpa using he
            generalize cardE L = ce at C1 nE
            generalize bs (cardT L) = T at C1
            clear hg he heq HOF
            go_wp2_with fail
            refine C1.o.mono ?_
            rintro e w2 ⟨rfl, hb2⟩
            have HW2 := hd (HW.o.trans (hb2.mono HW.o.size))
            clear hb2
            go_wp2
            go_ret2
            exact ParR.no HNO.o HW2.o

end Go.Proofs.YtogjokofmfpmgaaGreatDoor
namespace Go.Proofs.YtogjokofmfpmgaaGreatDoor
open Go.RowKit

theorem rcis_calls (s : ByteArray) (hs : s.size ≤ 1000000) (w : World) : Calls Tryz.prog 71 #[.string s] w fun e w' => e = .returned (.bool (decide (crdE s.data.toList = 0))) ∧ Below w.heap.size w w' := by
  have C1 := hd (rcparse_calls s hs w)
  obtain ⟨v, hv⟩ : ∃ v, decide (crdE s.data.toList = 0) = v := ⟨_, rfl⟩
  rw [hv]
  have hve : (crdE s.data.toList == 0) = v := by rw [← hv]; rfl
  have HV := hd hve
  clear hv hve
  go_enter Tryz.func71, Tryz.ntmps71
  go_wp2_with fail
  refine C1.o.mono ?_
  rintro e w1 ⟨⟨B, m, d, rfl, hm, hr, hb1⟩⟩
  have HB1 := hd hb1
  clear hm hr hb1
  go_wp2
  go_ret
  exact ⟨retBB HV.o, HB1.o⟩

end Go.Proofs.YtogjokofmfpmgaaGreatDoor
