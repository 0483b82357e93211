/-
  Cards: a card's fields as they should be, the program's.
-/
import Derived.Test.YtogjokofmfpmgaaGreatDoorGAM
import Derived.Test.YtogjokofmfpmgaaGreatDoorGAL
import Derived.Test.YtogjokofmfpmgaaGreatDoorProg
import Derived.Test.YtogjokofmfpmgaaGreatDoorGAA
import Derived.Test.YtogjokofmfpmgaaGreatDoorGAI
set_option linter.unusedVariables false
set_option linter.unusedSimpArgs false
namespace Go.Proofs.YtogjokofmfpmgaaGreatDoor
open Go.RowKit

theorem fInfo : (Tryz.prog.info? 128).map (fun i => (i.zero, i.size, i.bytes)) = some (some (.agg #[.int .i64 0, .int .i64 0, .string ⟨#[]⟩]), 3, 32) := by kernel_rfl
theorem cntK_take (q : Int) (l : List Fld) (k : Nat) (h : k < l.length) : cntK q (l.take (k + 1)) = cntK q (l.take k) + (if l[k].k = q then 1 else 0) := by
  unfold cntK
  rw [List.take_succ_eq_append_getElem h, List.countP_append]
  congr 1
  by_cases c : l[k].k = q <;> simp [c]
/-- The counts of kinds. -/
structure Cnts (w : World) (b : Nat) (l : List Fld) (cs : Array Value) : Prop where
  blk : Blk w b 144 cs
  size : cs.size = 7
  at_ : ∀ j : Nat, j < 7 → cs[j]? = some (.int .i64 (cntK j l : Nat))
theorem Cnts.up {w : World} {b : Nat} {l : List Fld} {cs : Array Value} {k : Nat} (h : Cnts w b (l.take k) cs) (hk : k < l.length) {q : Nat} (hq : l[k].k = q) (h7 : q < 7) {w' : World} (hw : Blk w' b 144 cs) :
    Cnts (w'.setCell ⟨b, q, none⟩ (.int .i64 ((cntK q (l.take k) : Nat) + 1))) b (l.take (k + 1)) (cs.setIfInBounds q (.int .i64 ((cntK q (l.take k) : Nat) + 1))) := by
  refine ⟨hw.set_ q _, by simpa using h.size, fun j hj => ?_⟩
  have := h.at_ j hj
  by_cases e : j = q
  · subst e
    rw [Array.getElem?_setIfInBounds_self_of_lt (by rw [h.size]; exact h7), cntK_take _ _ _ hk, if_pos hq]
    rfl
  · rw [Array.getElem?_setIfInBounds_ne (by omega), this, cntK_take _ _ _ hk, if_neg (by rw [hq]; omega)]
    rfl
theorem Cnts.alloc {w : World} {b : Nat} {l : List Fld} {cs : Array Value} (h : Cnts w b l cs) (o : Obj) : Cnts (w.alloc o) b l cs := ⟨h.blk.alloc o, h.size, h.at_⟩
theorem cnt_le (q : Int) (l : List Fld) : cntK q l ≤ l.length := List.countP_le_length
theorem errL_take : ∀ (l : List Fld) (k : Nat) (h : k < l.length), (∀ f ∈ l.take k, fldE f = 0) → fldE l[k] ≠ 0 → errL l = fldE l[k]
  | [], k, h, _, _ => by simp at h
  | a :: t, 0, _, _, h => by
    have h : fldE a ≠ 0 := h
    show (if fldE a = 0 then errL t else fldE a) = fldE a
    rw [if_neg h]
  | a :: t, k + 1, h, h1, h2 => by
    have ha : fldE a = 0 := h1 a (by simp)
    show (if fldE a = 0 then errL t else fldE a) = _
    rw [if_pos ha]
    exact errL_take t k (by simpa using h) (fun f hf => h1 f (by simp [hf])) h2
theorem card_err {l : List Fld} (h : errL l ≠ 0) : cardE l = errL l ∧ cardC l = [] := by
  have : cardE l = errL l := by unfold cardE; rw [if_pos h]
  exact ⟨this, by unfold cardC; rw [if_neg (by rw [this]; exact h)]⟩
theorem card_many {l : List Fld} (h : errL l = 0) (h2 : 12 < (cans l).length) : cardE l = 2 ∧ cardC l = [] := by
  have : cardE l = 2 := by unfold cardE; rw [if_neg (by simp [h]), if_pos h2]
  exact ⟨this, by unfold cardC; rw [if_neg (by omega)]⟩
theorem card_cnt {l : List Fld} (h : errL l = 0) (h2 : ¬ 12 < (cans l).length) (h3 : ¬ CntP (cans l)) : cardE l = 1 ∧ cardC l = [] := by
  have : cardE l = 1 := by unfold cardE; rw [if_neg (by simp [h]), if_neg h2, if_pos h3]
  exact ⟨this, by unfold cardC; rw [if_neg (by omega)]⟩
theorem card_long {l : List Fld} (h : errL l = 0) (h2 : ¬ 12 < (cans l).length) (h3 : CntP (cans l)) (h4 : 900 < (textL (cans l)).length) : cardE l = 2 ∧ cardC l = [] := by
  have : cardE l = 2 := by unfold cardE; rw [if_neg (by simp [h]), if_neg h2, if_neg (by simpa using h3), if_pos h4]
  exact ⟨this, by unfold cardC; rw [if_neg (by omega)]⟩
theorem card_good {l : List Fld} (h : errL l = 0) (h2 : ¬ 12 < (cans l).length) (h3 : CntP (cans l)) (h4 : ¬ 900 < (textL (cans l)).length) : cardE l = 0 ∧ cardC l = cans l := by
  have : cardE l = 0 := cardE_of h (by omega) h3 (by omega)
  exact ⟨this, by unfold cardC; rw [if_pos this]⟩
theorem ret2 {A : Option Addr} {m c : Nat} {a b : Int} (h : a = b) : Ending.returned (.tuple #[.slice A m c, .int .i64 a]) = .returned (.tuple #[.slice A m c, .int .i64 b]) := by rw [h]
/-- What Canon hands back. -/
structure CanR (w : World) (l : List Fld) (e : Ending) (w' : World) : Prop where
  o : ∃ (A : Option Addr) (m c : Nat), e = .returned (.tuple #[.slice A m c, .int .i64 (cardE l)]) ∧ m = (cardC l).length ∧ Row w' (From w.heap.size) 128 3 A m c (fsE (cardC l)) ∧ Below w.heap.size w w'
theorem CanR.no {w w' : World} {l : List Fld} {k : Int} (h : cardE l = k ∧ cardC l = []) (hb : Below w.heap.size w w') : CanR w l (.returned (.tuple #[.slice none 0 0, .int .i64 k])) w' :=
  ⟨⟨none, 0, 0, ret2 h.1.symm, by rw [h.2]; rfl, by rw [h.2]; exact Row.nil _ _ _ _, hb⟩⟩

set_option maxRecDepth 100000 in
set_option maxHeartbeats 8000000 in
theorem ccanon_calls (w : World) (ht : Tbs w) (A : Option Addr) (n c : Nat) (l : List Fld) (hn : n = l.length) (hr : Rds w A n 3 (fsE l)) (hb : n ≤ 1000) (hm : ∀ f ∈ l, f.v.length ≤ 1000000) :
    Calls Tryz.prog 116 #[.slice A n c] w fun e w' => CanR w l e w' := by
  obtain ⟨i0, hi, hz0, hz1, hz2⟩ := info_parts fInfo
  have HN := hd hn
  have HR := hd hr
  have HM := hd hm
  have HT := hd (fun W (h : Below w.heap.size w W) => ht.below h)
  clear hn hr hm ht
  go_enter Tryz.func116, Tryz.ntmps116
  go_wp2_with fail
  go_loopw [14, 6, 7, 8, 4, 2, 3] (fun i _ _ _ out _ _ wr => ∃ (k : Nat) (B : Option Addr) (d : Nat), i = .int .i64 k ∧ k ≤ n ∧ out = .slice B k d ∧ Hd (∀ f ∈ l.take k, fldE f = 0) ∧ Hd (Row wr (From w.heap.size) 128 3 B k d (fsE ((l.take k).map fldC))) ∧ Hd (Below w.heap.size w wr)) (fun i _ _ _ _ _ _ _ => n - (intOf i).toNat)
  case atStart => exact ⟨0, none, 0, rfl, Nat.zero_le _, rfl, hd (fun f hf => by simp at hf), hd (Row.nil _ _ _ _), hd (Below.refl _ _)⟩
  case round =>
    obtain ⟨k, B, d, rfl, hk, rfl, HE, HO, HW⟩ := hrel
    obtain ⟨wi, rfl⟩ : ∃ wi : World, wi = wr := ⟨_, rfl⟩
    by_cases hlt : k < n
    · have hlti : decide ((k : Int) < (n : Int)) = true := by simp; omega
      have hkl : k < l.length := by rw [← HN.o]; exact hlt
      obtain ⟨f, hf⟩ : ∃ f, l[k]'hkl = f := ⟨_, rfl⟩
      have hfm := HM.o f (by rw [← hf]; exact List.getElem_mem _)
      have HF := hd hf
      have hr2 := HR.o.below HW.o
      obtain ⟨g, o, rfl, hg, hc⟩ := hr2.at_ (by omega)
      have hcf : ∀ t u, t < 3 → (fEnc f)[t]? = some u → wi.cell? ⟨g, o + k * 3 + t, none⟩ = some u := fun t u ht hv => by
        rw [Nat.add_assoc]
        exact hc _ _ ((fsE_at l k hkl t ht).trans (by rw [hf]; exact hv))
      have c0 := hcf 0 _ (by omega) rfl
      have c1 := hcf 1 _ (by omega) rfl
      have c2 := hcf 2 _ (by omega) rfl
      rw [Nat.add_zero] at c0
      clear hcf hc hr2 hf
      have C1 := fcanon_calls f hfm
      obtain ⟨r, hr⟩ : ∃ r, fldC f = r := ⟨_, rfl⟩
      obtain ⟨re, hre⟩ : ∃ re, fldE f = re := ⟨_, rfl⟩
      rw [hr, hre] at C1
      have HRF := hd hr
      have HRE := hd hre
      obtain ⟨fk, fl, fv⟩ := f
      obtain ⟨rk, rl, rv⟩ := r
      simp only [fldV, fldR] at C1
      have K1 := hd C1
      have HBB := hd (HW.o.alloc HW.o.size (.cells #[.int .i64 fk, .int .i64 fl, .string (bs fv)] 128))
      have HRB := hd (HO.o.alloc (.cells #[.int .i64 fk, .int .i64 fl, .string (bs fv)] 128))
      have HTT := hd (HT.o _ HBB.o)
      clear C1 hr hre hfm
      by_cases he : re = 0
      · subst he
        go_wp2_with fail
        refine (K1.o _ HTT.o).mono ?_
        rintro e w2 ⟨rfl, hb2⟩
        have HR2 := hd (HRB.o.below hb2)
        have HW2 := hd (HBB.o.trans (hb2.mono HBB.o.size))
        have hsz := HW2.o.size
        clear hb2 c0 c1 c2
        go_wp2_with (at_builtin; go_loud (refine wpList_append_row rfl _ _ 118 rfl (From w.heap.size) 128 i0 (.agg #[.int .i64 0, .int .i64 0, .string ⟨#[]⟩]) 3 32 Tryz.underlying118 hi hz0 hz1 hz2 rfl B k d (fsE ((l.take k).map fldC)) rfl ((HR2.o.alloc _).alloc _) ⟨_, 0, none⟩ 1 1 [.int .i64 rk, .int .i64 rl, .string (bs rv)] rfl rfl (cells_at (Blk.new_ _ _ (by simp) _ _) rfl) (by simp [Value.oneCell']) (by omega) (by unfold maxLen; omega) (by omega) ?_; intro A2 c2 w3 hown3 hchg3))
        go_roundw
        case rel =>
          refine ⟨k + 1, A2, c2, by go_num, by omega, rfl, hd (fun f hf => ?_), hd ?_, hd ?_⟩
          · rw [List.take_succ_eq_append_getElem hkl] at hf
            rcases List.mem_append.1 hf with hf | hf
            · exact HE.o f hf
            · rw [List.mem_singleton.1 hf, HF.o]; exact HRE.o
          · rw [show fsE ((l.take (k + 1)).map fldC) = fsE ((l.take k).map fldC) ++ [.int .i64 rk, .int .i64 rl, .string (bs rv)] by
              rw [List.take_succ_eq_append_getElem hkl, List.map_append, fsE_app, HF.o]
              simp [fsE, HRF.o, fEnc]]
            exact hown3.mono (fun q hq => by
              rcases hq with hq | hq
              · exact hq
              · simp at hq; show w.heap.size ≤ q; omega)
          · exact HW2.o.trans ((((Chg.refl (From w.heap.size) w2).alloc _).alloc _).trans hchg3 (fun q hq => .inl hq) |>.below (fun _ h => h) hsz)
        case measure => simp [intOf]; omega
      · have nE : (re != 0) = true := by simpa using he
        have HCE := hd (card_err (l := l) (by
          rw [errL_take l k hkl HE.o (by rw [HF.o, HRE.o]; exact he), HF.o, HRE.o]; exact he))
        have HCV := hd (errL_take l k hkl HE.o (by rw [HF.o, HRE.o]; exact he))
        rw [HF.o, HRE.o] at HCV
        clear he
        go_wp2_with fail
        refine (K1.o _ HTT.o).mono ?_
        rintro e w2 ⟨rfl, hb2⟩
        have HW2 := hd (HBB.o.trans (hb2.mono HBB.o.size))
        clear hb2 c0 c1 c2
        go_wp2
        go_ret2
        exact CanR.no ⟨HCE.o.1.trans HCV.o, HCE.o.2⟩ (HW2.o.alloc HW2.o.size _)
    · have hlti : decide ((k : Int) < (n : Int)) = false := by simp; omega
      have hkn : k = n := by omega
      subst hkn
      have htk : l.take k = l := List.take_of_length_le (by rw [← HN.o]; exact Nat.le_refl _)
      rw [htk] at HE HO
      have HER := hd (errL_of HE.o)
      have HLM := hd (show k = (l.map fldC).length by rw [List.length_map]; exact HN.o)
      clear htk hlti
      go_wp2_with fail
      refine (sortFs_holds wi (From w.heap.size) B k d _ HLM.o HO.o (by omega)).mono ?_
      rintro e w2 ⟨rfl, ls, hp, hs, hr2, hc2⟩
      have HP := hd hp
      have HS := hd hs
      have HR2 := hd hr2
      have hsw := HW.o.size
      have HW2 := hd (HW.o.trans ((hc2.mono HO.o.of_sub).below (fun _ h => h) hsw))
      clear hp hs hr2 hc2 hsw
      go_wp2_with fail
      refine (compact_calls w2 (From w.heap.size) B k d ls (by rw [HP.o.length_eq]; exact HLM.o) HR2.o (by omega)).mono ?_
      rintro e w3 ⟨⟨m, rfl, hm, hr3⟩, hc3⟩
      have hcan : dedup ls = cans l := dedup_sorted HP.o (HS.o.imp (fun h => by simpa [lessF] using h))
      rw [hcan] at hm hr3
      have HMM := hd hm
      have HR3 := hd hr3
      have hsw := HW2.o.size
      have HW3 := hd (HW2.o.trans ((hc3.mono HR2.o.of_sub).below (fun _ h => h) hsw))
      have hml : m ≤ k := by
        rw [hm, HLM.o]; exact rise_len _
      clear hm hr3 hc3 hsw hcan
      obtain ⟨L, hL⟩ : ∃ L, cans l = L := ⟨_, rfl⟩
      have HL := hd hL
      have HMAY := hd (cans_may HER.o)
      rw [hL] at HMM HR3 HMAY
      clear hL
      by_cases h12 : 12 < m
      · have HCE := hd (card_many HER.o (by rw [HL.o, ← HMM.o]; exact h12))
        have h12i : (12 : Int) < (m : Int) := by omega
        go_wp2
        go_ret2
        exact CanR.no HCE.o HW3.o
      · have h12i : ¬ (12 : Int) < (m : Int) := by omega
        have HN12 := hd (show ¬ 12 < (cans l).length by rw [HL.o, ← HMM.o]; exact h12)
        obtain ⟨Y, hY⟩ : ∃ Y, Y = w3.alloc (.cells #[.int .i64 0, .int .i64 0, .int .i64 0, .int .i64 0, .int .i64 0, .int .i64 0, .int .i64 0] 144) := ⟨_, rfl⟩
        obtain ⟨b, hb⟩ : ∃ b, b = w3.heap.size := ⟨_, rfl⟩
        have HYB := hd (show Below w.heap.size w Y by rw [hY]; exact HW3.o.alloc HW3.o.size _)
        have HYR := hd (show Row Y (From w.heap.size) 128 3 B m d (fsE L) by rw [hY]; exact HR3.o.alloc _)
        have HYC := hd (show Cnts Y b (L.take 0) #[.int .i64 0, .int .i64 0, .int .i64 0, .int .i64 0, .int .i64 0, .int .i64 0, .int .i64 0] from ⟨by rw [hY]; exact Blk.new_ _ _ hb _ _, rfl, fun j hj => by
          match j, hj with
          | 0, _ => rfl
          | 1, _ => rfl
          | 2, _ => rfl
          | 3, _ => rfl
          | 4, _ => rfl
          | 5, _ => rfl
          | 6, _ => rfl⟩)
        have HBW := hd (show w.heap.size ≤ b by rw [hb]; exact HW3.o.size)
        have HYb := hd hb
        have HYy := hd hY
        clear hb hY
        go_wp2_with fail
        rw [← HYy.o, ← HYb.o]
        go_loopw [40, 11] (fun i _ wr => ∃ (q : Nat) (cs : Array Value), i = .int .i64 q ∧ q ≤ m ∧ Hd (Cnts wr b (L.take q) cs) ∧ Hd (Row wr (From w.heap.size) 128 3 B m d (fsE L)) ∧ Hd (Below w.heap.size w wr)) (fun i _ _ => m - (intOf i).toNat)
        case atStart => exact ⟨0, _, rfl, Nat.zero_le _, HYC, HYR, HYB⟩
        case round =>
          obtain ⟨q, cs, rfl, hq, HC, HRQ, HWQ⟩ := hrel
          obtain ⟨wq, rfl⟩ : ∃ wq : World, wq = wr := ⟨_, rfl⟩
          by_cases hlt2 : q < m
          · have hlti : decide ((q : Int) < (m : Int)) = true := by simp; omega
            have hql : q < L.length := by rw [← HMM.o]; exact hlt2
            obtain ⟨f, hf⟩ : ∃ f, L[q]'hql = f := ⟨_, rfl⟩
            have hok := may_ok (HMAY.o f (by rw [← hf]; exact List.getElem_mem _))
            have hk6 : 1 ≤ f.k ∧ f.k ≤ 6 := by unfold okKL at hok; omega
            obtain ⟨kn, hkn⟩ : ∃ kn : Nat, f.k = kn := ⟨f.k.toNat, by omega⟩
            have hk7 : kn < 7 := by omega
            have hk7i : (kn : Int) < 7 := by omega
            have hk0i : (0 : Int) ≤ (kn : Int) := by omega
            have HFK := hd (show (L[q]'hql).k = (kn : Int) by rw [hf]; exact hkn)
            obtain ⟨g, hA, _, hg, _, _, hcl, _⟩ := HRQ.o.at_ (by omega)
            have hcf : ∀ t u, t < 3 → (fEnc f)[t]? = some u → wq.cell? ⟨g, q * 3 + t, none⟩ = some u := fun t u ht hv => hcl _ _ ((fsE_at L q hql t ht).trans (by rw [hf]; exact hv))
            have c0 := hcf 0 _ (by omega) rfl
            have c1 := hcf 1 _ (by omega) rfl
            have c2 := hcf 2 _ (by omega) rfl
            rw [Nat.add_zero] at c0
            have hne := HRQ.o.ne_blk HC.o.blk (by decide)
            have HNE := hd hne
            have cb := HC.o.blk.at_ kn (HC.o.at_ kn hk7)
            have fb := HC.o.blk.frozen kn
            have hblt := HC.o.blk.lt
            have hcle := cnt_le (kn : Int) (L.take q)
            rw [List.length_take] at hcle
            have HUP := hd (fun (W : World) (hw : Blk W b 144 cs) => HC.o.up hql HFK.o hk7 hw)
            obtain ⟨z, hz⟩ : ∃ z, cntK (kn : Int) (L.take q) = z := ⟨_, rfl⟩
            rw [hz] at cb hcle HUP
            have HBK := hd (HC.o.blk)
            obtain ⟨fk, fl, fv⟩ := f
            simp only at hkn
            subst hkn
            subst hA
            clear hcf hcl hf hok hk6 hne hz
            go_wp2
            go_roundw
            case rel =>
              refine ⟨q + 1, _, by go_num, by omega, hd ((HUP.o _ HBK.o).alloc _), hd ?_, hd ?_⟩
              · exact (HRQ.o.far (fun a ha => HNE.o a ha) _).alloc _
              · exact (HWQ.o.setCell HBW.o _).alloc (HWQ.o.setCell HBW.o _).size _
            case measure => simp [intOf]; omega
          · have hlti : decide ((q : Int) < (m : Int)) = false := by simp; omega
            have hqm : q = m := by omega
            subst hqm
            have htk : L.take q = L := List.take_of_length_le (by rw [← HMM.o]; exact Nat.le_refl _)
            have b1 := HC.o.blk.at_ 1 (HC.o.at_ 1 (by omega))
            have b2 := HC.o.blk.at_ 2 (HC.o.at_ 2 (by omega))
            have b5 := HC.o.blk.at_ 5 (HC.o.at_ 5 (by omega))
            rw [htk] at b1 b2 b5
            have HCP := hd (show CntP L ↔ cntK ((1 : Nat) : Int) L = 1 ∧ cntK ((2 : Nat) : Int) L ≤ 1 ∧ cntK ((5 : Nat) : Int) L ≤ 1 from Iff.rfl)
            obtain ⟨z1, hz1⟩ : ∃ z, cntK ((1 : Nat) : Int) L = z := ⟨_, rfl⟩
            obtain ⟨z2, hz2⟩ : ∃ z, cntK ((2 : Nat) : Int) L = z := ⟨_, rfl⟩
            obtain ⟨z5, hz5⟩ : ∃ z, cntK ((5 : Nat) : Int) L = z := ⟨_, rfl⟩
            rw [hz1] at b1 HCP
            rw [hz2] at b2 HCP
            rw [hz5] at b5 HCP
            clear hz1 hz2 hz5 htk hlti
            by_cases e1 : z1 = 1
            · subst e1
              by_cases e2 : z2 ≤ 1
              · have e2i : ¬ (1 : Int) < (z2 : Int) := by omega
                by_cases e5 : z5 ≤ 1
                · have e5i : ¬ (1 : Int) < (z5 : Int) := by omega
                  have HCPL := hd (HCP.o.2 ⟨rfl, e2, e5⟩)
                  have HTX := hd (text_calls wq (HT.o _ HWQ.o) B q d L HMM.o HRQ.o.rds (by omega) (fun f hf => by have := may_len (HMAY.o f hf); omega))
                  obtain ⟨T, hT⟩ : ∃ T, textL L = T := ⟨_, rfl⟩
                  rw [hT] at HTX
                  have HTL := hd hT
                  have hts : (bs T).size = T.length := bs_size T
                  clear e2 e5 hT
                  by_cases h9 : 900 < T.length
                  · have HCE := hd (card_long HER.o HN12.o (by rw [HL.o]; exact HCPL.o) (by rw [HL.o, HTL.o]; exact h9))
                    have h9i : (900 : Int) < (T.length : Int) := by omega
                    go_wp2_with fail
                    refine HTX.o.mono ?_
                    rintro e w4 ⟨rfl, hb4⟩
                    have HW4 := hd (HWQ.o.trans (hb4.mono HWQ.o.size))
                    clear hb4
                    go_wp2
                    go_ret2
                    exact CanR.no HCE.o HW4.o
                  · have HCE := hd (card_good HER.o HN12.o (by rw [HL.o]; exact HCPL.o) (by rw [HL.o, HTL.o]; exact h9))
                    have h9i : ¬ (900 : Int) < (T.length : Int) := by omega
                    go_wp2_with fail
                    refine HTX.o.mono ?_
                    rintro e w4 ⟨rfl, hb4⟩
                    have HR4 := hd (HRQ.o.below hb4)
                    have HW4 := hd (HWQ.o.trans (hb4.mono HWQ.o.size))
                    clear hb4
                    go_wp2
                    go_ret2
                    exact ⟨⟨B, q, d, ret2 HCE.o.1.symm, by rw [HCE.o.2, HL.o]; exact HMM.o, by rw [HCE.o.2, HL.o]; exact HR4.o, HW4.o⟩⟩
                · have e5i : (1 : Int) < (z5 : Int) := by omega
                  have HCE := hd (card_cnt HER.o HN12.o (by rw [HL.o]; exact fun h => e5 (HCP.o.1 h).2.2))
                  clear e2 e5
                  go_wp2
                  go_ret2
                  exact CanR.no HCE.o HWQ.o
              · have e2i : (1 : Int) < (z2 : Int) := by omega
                have HCE := hd (card_cnt HER.o HN12.o (by rw [HL.o]; exact fun h => e2 (HCP.o.1 h).2.1))
                clear e2
                go_wp2
                go_ret2
                exact CanR.no HCE.o HWQ.o
            · have e1i : ((z1 : Int) != 1) = true := by simp; omega
              have HCE := hd (card_cnt HER.o HN12.o (by rw [HL.o]; exact fun h => e1 (HCP.o.1 h).1))
              clear e1
              go_wp2
              go_ret2
              exact CanR.no HCE.o HWQ.o

end Go.Proofs.YtogjokofmfpmgaaGreatDoor
namespace Go.Proofs.YtogjokofmfpmgaaGreatDoor
open Go.RowKit

theorem retTE2 {a b : ByteArray} {x y : Int} (h : a = b) (k : x = y) : Ending.returned (.tuple #[.string a, .int .i64 x]) = .returned (.tuple #[.string b, .int .i64 y]) := by rw [h, k]
theorem cardT_no {l : List Fld} (h : cardE l ≠ 0) : cardT l = [] := by unfold cardT; rw [if_neg h]
theorem cardT_ok {l : List Fld} (h : cardE l = 0) : cardT l = textL (cardC l) ∧ (cardC l).length ≤ 12 ∧ AllMay (cardC l) := by
  have h0 := cardE_0 h
  have hc : cardC l = cans l := by unfold cardC; rw [if_pos h]
  rw [hc]
  exact ⟨by unfold cardT; rw [if_pos h], h0.2.1, cans_may h0.1⟩

set_option maxRecDepth 100000 in
set_option maxHeartbeats 2000000 in
theorem ctext_calls (w : World) (ht : Tbs w) (A : Option Addr) (n c : Nat) (l : List Fld) (hn : n = l.length) (hr : Rds w A n 3 (fsE l)) (hb : n ≤ 1000) (hm : ∀ f ∈ l, f.v.length ≤ 1000000) :
    Calls Tryz.prog 106 #[.slice A n c] w fun e w' => e = .returned (.tuple #[.string (bs (cardT l)), .int .i64 (cardE l)]) ∧ Below w.heap.size w w' := by
  have C1 := hd (ccanon_calls w ht A n c l hn hr hb hm)
  have HT := hd (fun W (h : Below w.heap.size w W) => ht.below h)
  clear hn hr hm ht
  obtain ⟨T, hT⟩ : ∃ T, cardT l = T := ⟨_, rfl⟩
  have HTT := hd hT
  rw [hT]
  clear hT
  go_enter Tryz.func106, Tryz.ntmps106
  go_wp2_with fail
  refine C1.o.mono ?_
  rintro e w1 ⟨⟨B, m, d, rfl, hm, hr, hb1⟩⟩
  have HB1 := hd hb1
  have HM := hd hm
  have HR := hd hr
  clear hm hr hb1
  by_cases he : cardE l = 0
  · have HOK := hd (cardT_ok he)
    have hm12 : m ≤ 12 := by rw [HM.o]; exact HOK.o.2.1
    have C2 := hd (text_calls w1 (HT.o _ HB1.o) B m d (cardC l) HM.o HR.o.rds (by omega) (fun f hf => by have := may_len (HOK.o.2.2 f hf); omega))
    rw [← HOK.o.1, HTT.o] at C2
    have HE0 := hd he
    rw [he]
    clear he
    go_wp2_with fail
    refine C2.o.mono ?_
    rintro e w2 ⟨rfl, hb2⟩
    have HB2 := hd (HB1.o.trans (hb2.mono HB1.o.size))
    clear hb2
    go_wp2
    go_ret2
    exact ⟨retTE2 rfl HE0.o.symm, HB2.o⟩
  · have HNO := hd (cardT_no he)
    have nE : (cardE l != 0) = true := by simpa using he
    obtain ⟨ce, hce⟩ : ∃ ce, cardE l = ce := ⟨_, rfl⟩
    rw [hce] at nE
    rw [hce]
    have HCE := hd hce
    clear he hce
    go_wp2
    go_ret2
    exact ⟨retTE2 (by rw [← HTT.o, HNO.o]; rfl) HCE.o.symm, HB1.o⟩

end Go.Proofs.YtogjokofmfpmgaaGreatDoor
namespace Go.Proofs.YtogjokofmfpmgaaGreatDoor
open Go.RowKit

theorem bt_eqL (a : List UInt8) (s : ByteArray) : ((bs a).toList == s.toList) = decide (a = s.data.toList) := by
  rw [bs_toL, Lib.toList_data]
  by_cases h : a = s.data.toList <;> simp [h]
theorem bt_eqM (a b : List UInt8) : ((bs a).toList == (bs b).toList) = decide (a = b) := by
  rw [bs_toL, bs_toL]
  by_cases h : a = b <;> simp [h]
/-- What the cut leaves. -/
structure CutIs (S H A : List UInt8) : Prop where
  o : ∀ f, Found S f → headL f.k f.l = H ∧ f.v = A
  n : S = [] → H = []
  la : A.length ≤ S.length
  lh : H.length ≤ S.length
theorem bef_len' (c : UInt8) (l : List UInt8) : (bef c l).length ≤ l.length := (List.takeWhile_sublist _).length_le
theorem cut_is (S : List UInt8) : CutIs S (if 58 ∈ S then bef 58 S else S) (if 58 ∈ S then aft 58 S else []) := by
  by_cases h : (58 : UInt8) ∈ S
  · rw [if_pos h, if_pos h]
    exact ⟨fun f hf => ⟨(found_cut hf).2.1.symm, (found_cut hf).2.2.symm⟩, fun e => (by rw [e] at h; cases h), Nat.le_of_lt (aft_len 58 S h), bef_len' 58 S⟩
  · rw [if_neg h, if_neg h]
    exact ⟨fun f hf => absurd (found_cut hf).1 h, fun e => e, Nat.zero_le _, Nat.le_refl _⟩
theorem line_iff {S H A : List UInt8} (hc : CutIs S H A) {k l : Int} (hk : 1 ≤ k ∧ k ≤ 6) (he : headL k l = H) : lineF ⟨k, l, A⟩ = S ↔ Found S ⟨k, l, A⟩ := by
  constructor
  · intro h
    by_cases hm : MayF ⟨k, l, A⟩
    · exact ⟨hm, by rw [← line_yes hm]; exact h⟩
    · rw [line_no hm] at h
      have := hc.n h.symm
      rw [this] at he
      unfold headL at he
      exact absurd (List.append_eq_nil_iff.1 he).1 (fun e => (kindL_ne k).1 e hk)
  · exact found_line
/-- From which kind, from which label on. -/
def From1 (S : List UInt8) (k : Nat) : Prop := ∀ f, Found S f → (k : Int) ≤ f.k
def From2 (S : List UInt8) (k l : Nat) : Prop := ∀ f, Found S f → (k : Int) ≤ f.k ∧ (f.k = k → (l : Int) ≤ f.l)
theorem from1_0 (S : List UInt8) : From1 S 1 := fun f hf => (may_ok hf.1).1
theorem from2_0 {S : List UInt8} {k : Nat} (h : From1 S k) : From2 S k 0 := fun f hf => ⟨h f hf, fun _ => by have := may_ok hf.1; unfold okKL at this; omega⟩
theorem from2_up {S : List UInt8} {k : Nat} (h : From2 S k 4) : From1 S (k + 1) := fun f hf => by
  have h1 := h f hf
  have h2 := may_ok hf.1
  unfold okKL at h2
  have : f.k ≠ k := fun e => by have := h1.2 e; omega
  have := h1.1
  omega
theorem from1_end {S : List UInt8} (h : From1 S 7) : ∀ f, ¬ Found S f := fun f hf => by
  have h1 := h f hf
  have h2 := may_ok hf.1
  unfold okKL at h2
  omega
theorem from2_no {S : List UInt8} {k l : Nat} (h : From2 S k l) (hn : ∀ f, Found S f → f.k = k → f.l ≠ l) : From2 S k (l + 1) := fun f hf => by
  have h1 := h f hf
  refine ⟨h1.1, fun e => ?_⟩
  have := h1.2 e
  have := hn f hf e
  omega

set_option maxRecDepth 100000 in
set_option maxHeartbeats 4000000 in
theorem fparse_calls (s : ByteArray) (hs : s.size ≤ 1000000) (w : World) (ht : Tbs w) : Calls Tryz.prog 105 #[.string s] w fun e w' => e = .returned (fldR (parF s.data.toList) (parE s.data.toList)) ∧ Below w.heap.size w w' := by
  have hsl : s.data.toList.length = s.size := by simp
  obtain ⟨V, hV⟩ : ∃ V, parF s.data.toList = V := ⟨_, rfl⟩
  obtain ⟨F, hF⟩ : ∃ F, parE s.data.toList = F := ⟨_, rfl⟩
  rw [hV, hF]
  have HY : Hd (∀ f, Found s.data.toList f → V = f ∧ F = 0) := hd (fun f hf => by rw [← hV, ← hF]; exact par_yes hf)
  have HN : Hd ((∀ f, ¬ Found s.data.toList f) → V = noFld ∧ F = 1) := hd (fun h => by rw [← hV, ← hF]; exact par_no h)
  clear hV hF
  have hcut := cut_is s.data.toList
  obtain ⟨S, hS⟩ : ∃ S, s.data.toList = S := ⟨_, rfl⟩
  have HS := hd hS
  have hC := fun W (h : Tbl W) => cutc_calls 58 s (by omega) W h
  rw [hS] at HY HN hcut hC hsl
  clear hS
  have hC' : ∃ H A bb, CutIs S H A ∧ ∀ W, Tbl W → Calls Tryz.prog 104 #[.string s, .string ⟨#[58]⟩] W fun e w' => e = .returned (.tuple #[.string (bs H), .string (bs A), .bool bb]) ∧ Below W.heap.size W w' := by
    by_cases h : (58 : UInt8) ∈ S
    · simp only [if_pos h] at hcut hC
      exact ⟨_, _, _, hcut, hC⟩
    · simp only [if_neg h] at hcut hC
      refine ⟨_, _, false, hcut, fun W hW => (hC W hW).mono ?_⟩
      rintro e w' ⟨rfl, hb⟩
      exact ⟨by rw [← HS.o, bs_self], hb⟩
  clear hC hcut
  obtain ⟨H, A, bb, hcut, hC⟩ := hC'
  have hA : A.length ≤ 1000000 := by have := hcut.la; omega
  have HCI := hd hcut
  have H1 := hd hC
  clear hC hcut
  have HT := hd (fun W (h : Below w.heap.size w W) => ht.below h)
  obtain ⟨X, hX⟩ : ∃ X, X = w.alloc (.cells #[.int .i64 0, .int .i64 0, .string ⟨#[]⟩] 128) := ⟨_, rfl⟩
  have HB0 := hd (show Below w.heap.size w X by rw [hX]; exact (Below.refl _ w).alloc (Nat.le_refl _) _)
  have HK := hd (show Blk X w.heap.size 128 #[.int .i64 0, .int .i64 0, .string ⟨#[]⟩] by rw [hX]; exact Blk.new _ _ _)
  have HX := hd (show X.heap.size = w.heap.size + 1 by rw [hX]; simp)
  have hx := hd hX
  clear hX ht
  go_enter Tryz.func105, Tryz.ntmps105
  go_wp2_with fail
  rw [← hx.o]
  refine (H1.o X (HT.o X HB0.o).1).mono ?_
  rintro e w1 ⟨rfl, hb1⟩
  have HB1 : Hd (Below X.heap.size X w1) := hd hb1
  clear hb1
  go_wp2_with fail
  go_loopw [7, 8, 9, 10, 11, 3] (fun k _ _ _ _ _ wr => ∃ q : Nat, k = .int .i64 q ∧ 1 ≤ q ∧ q ≤ 7 ∧ Hd (From1 S q) ∧ Below X.heap.size X wr) (fun k _ _ _ _ _ _ => 7 - (intOf k).toNat)
  case atStart => exact ⟨1, rfl, by omega, by omega, hd (from1_0 S), HB1.o⟩
  case round =>
    obtain ⟨q, rfl, hq1, hq7, hf, hbe⟩ := hrel
    obtain ⟨wo, rfl⟩ : ∃ wo : World, wo = wr := ⟨_, rfl⟩
    have HBO := hd hbe
    clear hbe
    by_cases hlt : q < 7
    · have hq6 : (q : Int) ≤ 6 := by omega
      have hq6' : decide ((q : Int) ≤ 6) = true := by simpa using hq6
      go_wp2_with fail
      go_loopw [8, 9, 10, 11, 3] (fun l _ _ _ _ wr => ∃ r : Nat, l = .int .i64 r ∧ r ≤ 4 ∧ Hd (From2 S q r) ∧ Below X.heap.size X wr) (fun l _ _ _ _ _ => 4 - (intOf l).toNat)
      case atStart => exact ⟨0, rfl, by omega, hd (from2_0 hf.o), HBO.o⟩
      case round =>
        obtain ⟨r, rfl, hr4, hg, hbe⟩ := hrel
        obtain ⟨wi, rfl⟩ : ∃ wi : World, wi = wr := ⟨_, rfl⟩
        have HBI := hd hbe
        clear hbe
        by_cases hlt4 : r < 4
        · have C1 := label_calls q r wi
          have C2 := kind_calls q wi
          by_cases ho : okL q r
          · rw [show decide (okL (q : Int) r) = true by simp [ho], show labV (q : Int) r = labL r by rw [labV, if_pos ho]] at C1
            have hsum : bs (kindL q) ++ bs (labL r) = bs (headL q r) := bs_app2 _ _
            have hlk := kindL_len q
            have hll := labL_len r
            rw [← bs_size] at hlk hll
            by_cases he : headL q r = H
            · have hne := bt_eqM (headL q r) H
              rw [decide_eq_true he, ← hsum] at hne
              have hkk := ((okKL_iff (q : Int) r).2 ⟨by omega, ho⟩)
              have hli := line_iff HCI.o (k := q) (l := r) (by omega) he
              have K1 := hd C1
              have K2 := hd C2
              have K3 := hd (fline_calls ⟨q, r, A⟩ hA)
              simp only [fldV] at K3
              have hbox := (Blk.new wi 128 #[.int .i64 q, .int .i64 r, .string (bs A)])
              have HBA := hd (HBI.o.alloc HBI.o.size (.cells #[.int .i64 q, .int .i64 r, .string (bs A)] 128))
              have HBOX := hd hbox
              have HTA := hd (HT.o _ (HB0.o.trans (HBA.o.mono (by rw [HX.o]; omega))))
              obtain ⟨L1, hL1⟩ : ∃ L1, lineF ⟨q, r, A⟩ = L1 := ⟨_, rfl⟩
              rw [hL1] at K3 hli
              have heq := bt_eqL L1 s
              rw [HS.o] at heq
              have HLI := hd hli
              clear C1 C2 he ho hsum hli hL1 hbox hkk
              by_cases hfd : L1 = S
              · have HFD := hd (HY.o _ (HLI.o.1 hfd))
                rw [decide_eq_true hfd] at heq
                clear hfd HLI
                go_wp2_with fail
                refine K1.o.mono ?_
                rintro e w2 ⟨rfl, rfl⟩
                go_wp2_with fail
                refine K2.o.mono ?_
                rintro e w2 ⟨rfl, rfl⟩
                go_wp2_with fail
                refine (K3.o _ HTA.o).mono ?_
                rintro e w2 ⟨rfl, hb2⟩
                have HB2 := hd (HBA.o.trans (hb2.mono HBA.o.size))
                have k1 := HK.o.below HB2.o (by rw [HX.o]; omega)
                have k2 := HBOX.o.below hb2 (by simp)
                have b0 := k1.at_ 0 rfl
                have b1 := k1.at_ 1 rfl
                have b2 := k1.at_ 2 rfl
                have g0 := k1.frozen 0
                have g1 := k1.frozen 1
                have g2 := k1.frozen 2
                have a0 := k2.at_ 0 rfl
                have a1 := k2.at_ 1 rfl
                have a2 := k2.at_ 2 rfl
                have hl := k1.lt
                have hl2 := k2.lt
                have Q1 := hd k1
                clear k1 k2 hb2
                go_wp2
                (try simp only [Exit.inBlock, Exit.then])
                refine bodyPost_ret (res_cell rfl _ _ _ _ _ _ _ rfl (((Q1.o.set_ 0 _).set_ 1 _).set_ 2 _) rfl rfl rfl) rfl ⟨?_, ?_⟩
                · exact retF (f := ⟨q, r, A⟩) (a := 0) HFD.o.1.symm HFD.o.2.symm
                · exact ((((HB0.o.trans (HB2.o.mono (by rw [HX.o]; omega))).setCell (Nat.le_refl _) _).setCell (Nat.le_refl _) _).setCell (Nat.le_refl _) _)
              · have HN2 := hd (from2_no hg.o (fun f hf e1 e2 => hfd (HLI.o.2 (by
                  have := (HCI.o.o f hf).2
                  obtain ⟨fk, fl, fv⟩ := f
                  simp only at e1 e2 this
                  rw [e1, e2, this] at hf
                  exact hf))))
                rw [decide_eq_false hfd] at heq
                clear hfd HLI
                go_wp2_with fail
                refine K1.o.mono ?_
                rintro e w2 ⟨rfl, rfl⟩
                go_wp2_with fail
                refine K2.o.mono ?_
                rintro e w2 ⟨rfl, rfl⟩
                go_wp2_with fail
                refine (K3.o _ HTA.o).mono ?_
                rintro e w2 ⟨rfl, hb2⟩
                have HB2 := hd (HBA.o.trans (hb2.mono HBA.o.size))
                clear hb2
                go_wp2
                go_roundw
                case rel => exact ⟨r + 1, by go_num, by omega, HN2, HB2.o⟩
                case measure => simp [intOf]; omega
            · have hne := bt_eqM (headL q r) H
              rw [decide_eq_false he, ← hsum] at hne
              have HN2 := hd (from2_no hg.o (fun f hf e1 e2 => he (by rw [← e1, ← e2]; exact (HCI.o.o f hf).1)))
              have K1 := hd C1
              have K2 := hd C2
              clear C1 C2 he ho hsum
              go_wp2_with fail
              refine K1.o.mono ?_
              rintro e w2 ⟨rfl, rfl⟩
              go_wp2_with fail
              refine K2.o.mono ?_
              rintro e w2 ⟨rfl, rfl⟩
              go_wp2
              go_roundw
              case rel => exact ⟨r + 1, by go_num, by omega, HN2, HBI.o⟩
              case measure => simp [intOf]; omega
          · rw [show decide (okL (q : Int) r) = false by simp [ho]] at C1
            have HN2 := hd (from2_no hg.o (fun f hf e1 e2 => ho (by rw [← e1, ← e2]; exact ((okKL_iff _ _).1 (may_ok hf.1)).2)))
            have K1 := hd C1
            clear C1 C2 ho
            go_wp2_with fail
            refine K1.o.mono ?_
            rintro e w2 ⟨rfl, rfl⟩
            go_wp2
            go_roundw
            case rel => exact ⟨r + 1, by go_num, by omega, HN2, HBI.o⟩
            case measure => simp [intOf]; omega
        · have hr : r = 4 := by omega
          subst hr
          have HN2 := hd (from2_up hg.o)
          go_wp2
          go_roundw
          case rel => exact ⟨q + 1, by go_num, by omega, by omega, HN2, HBI.o⟩
          case measure => simp [intOf]; omega
    · have hq : q = 7 := by omega
      subst hq
      have HX2 := hd (HN.o (from1_end hf.o))
      have k1 := HK.o.below HBO.o (by rw [HX.o]; omega)
      have b0 := k1.at_ 0 rfl
      have b1 := k1.at_ 1 rfl
      have b2 := k1.at_ 2 rfl
      have g0 := k1.frozen 0
      have g1 := k1.frozen 1
      have g2 := k1.frozen 2
      have hl := k1.lt
      have K1 := hd k1
      clear k1
      go_wp2
      (try simp only [Exit.inBlock, Exit.then])
      refine bodyPost_ret (res_cell rfl _ _ _ _ _ _ _ rfl (((K1.o.set_ 0 _).set_ 1 _).set_ 2 _) rfl rfl rfl) rfl ⟨?_, ?_⟩
      · exact retF (f := noFld) (a := 1) HX2.o.1.symm HX2.o.2.symm
      · exact ((((HB0.o.trans (HBO.o.mono (by rw [HX.o]; omega))).setCell (Nat.le_refl _) _).setCell (Nat.le_refl _) _).setCell (Nat.le_refl _) _)

end Go.Proofs.YtogjokofmfpmgaaGreatDoor
namespace Go.Proofs.YtogjokofmfpmgaaGreatDoor
open Go.RowKit

/-- So far: the fields, what is left. -/
structure Sofar (S : List UInt8) (L : List Fld) (r : List UInt8) : Prop where
  may : AllMay L
  eq : S = textL L ++ r
theorem sofar_0 (S : List UInt8) : Sofar S [] S := ⟨(fun f hf => by cases hf), rfl⟩
theorem sofar_next {S r : List UInt8} {L : List Fld} {f : Fld} (h : Sofar S L r) (hr : r = bef 10 r ++ 10 :: aft 10 r) (hf : Found (bef 10 r) f) : Sofar S (L ++ [f]) (aft 10 r) := by
  refine ⟨fun g hg => ?_, ?_⟩
  · rcases List.mem_append.1 hg with hg | hg
    · exact h.may g hg
    · rw [List.mem_singleton.1 hg]; exact hf.1
  · rw [textL_snoc, found_line hf, h.eq]
    conv => lhs; rw [hr]
    simp
/-- What a parse hands back. -/
structure ParR (w : World) (s : List UInt8) (e : Ending) (w' : World) : Prop where
  o : ∃ (A : Option Addr) (m c : Nat), e = .returned (.tuple #[.slice A m c, .int .i64 (crdE s)]) ∧ m = (crdF s).length ∧ Row w' (From w.heap.size) 128 3 A m c (fsE (crdF s)) ∧ Below w.heap.size w w'
theorem ParR.no {w w' : World} {s : List UInt8} (h : ∀ l, ¬ Reads s l) (hb : Below w.heap.size w w') : ParR w s (.returned (.tuple #[.slice none 0 0, .int .i64 1])) w' :=
  ⟨⟨none, 0, 0, ret2 (crd_no h).2.symm, by rw [(crd_no h).1]; rfl, by rw [(crd_no h).1]; exact Row.nil _ _ _ _, hb⟩⟩
theorem ParR.yes {w w' : World} {s : List UInt8} {L : List Fld} {B : Option Addr} {m c : Nat} (h : Reads s L) (hm : m = L.length) (hr : Row w' (From w.heap.size) 128 3 B m c (fsE L)) (hb : Below w.heap.size w w') : ParR w s (.returned (.tuple #[.slice B m c, .int .i64 0])) w' :=
  ⟨⟨B, m, c, ret2 (crd_yes h).2.symm, by rw [(crd_yes h).1]; exact hm, by rw [(crd_yes h).1]; exact hr, hb⟩⟩

set_option maxRecDepth 100000 in
set_option maxHeartbeats 8000000 in
theorem cparse_calls (s : ByteArray) (hs : s.size ≤ 1000000) (w : World) (ht : Tbs w) : Calls Tryz.prog 101 #[.string s] w fun e w' => ParR w s.data.toList e w' := by
  obtain ⟨i0, hi, hz0, hz1, hz2⟩ := info_parts fInfo
  have HSL := hd (show s.data.toList.length = s.size by simp)
  obtain ⟨S, hS⟩ : ∃ S, s.data.toList = S := ⟨_, rfl⟩
  have HS := hd hS
  rw [hS] at HSL ⊢
  clear hS
  have HT := hd (fun W (h : Below w.heap.size w W) => ht.below h)
  clear ht
  by_cases h9 : 900 < s.size
  · have HNO := hd (show ∀ l, ¬ Reads S l from fun l h => by have := (reads_len h).1; rw [HSL.o] at this; omega)
    have h9i : (900 : Int) < (s.size : Int) := by omega
    go_enter Tryz.func101, Tryz.ntmps101
    go_wp2
    go_ret2
    exact ParR.no HNO.o (Below.refl _ _)
  · have h9i : ¬ (900 : Int) < (s.size : Int) := by omega
    have HRS := hd (show s = bs S by rw [← HS.o, bs_self])
    go_enter Tryz.func101, Tryz.ntmps101
    go_wp2_with fail
    go_loopw [5, 6, 7, 8, 9, 10, 4, 2, 3] (fun rest _ _ _ _ _ out _ _ wr => ∃ (rb : ByteArray) (r : List UInt8) (L : List Fld) (B : Option Addr) (k d : Nat), rest = .string rb ∧ rb.size = r.length ∧ Hd (rb = bs r) ∧ out = .slice B k d ∧ Hd (k = L.length) ∧ k + r.length ≤ 900 ∧ Hd (Sofar S L r) ∧ Hd (Row wr (From w.heap.size) 128 3 B k d (fsE L)) ∧ Hd (Below w.heap.size w wr)) (fun rest _ _ _ _ _ _ _ _ _ => match rest with | .string b => b.size | _ => 0)
    case atStart => exact ⟨s, S, [], none, 0, 0, rfl, HSL.o.symm, HRS, rfl, rfl, by rw [HSL.o]; omega, hd (sofar_0 S), hd (Row.nil _ _ _ _), hd (Below.refl _ _)⟩
    case round =>
      obtain ⟨rb, r, L, B, k, d, rfl, hrz, HRB, rfl, HK, hk9, HSO, HRO, HW⟩ := hrel
      obtain ⟨wi, rfl⟩ : ∃ wi : World, wi = wr := ⟨_, rfl⟩
      by_cases hr0 : r = []
      · have hrb : (rb.toList == []) = true := by rw [HRB.o, bs_toL, hr0]; rfl
        have HEQ := hd (show S = textL L by have := HSO.o.eq; rw [hr0, List.append_nil] at this; exact this)
        have HND := hd (fun m (h : Reads S m) => (reads_end (r := []) HSO.o.may (by rw [← HEQ.o]; simp) (by simp) h).1)
        have HOF := hd (fun (h1 : cardE L = 0) (h2 : cardT L = S) => reads_of (r := []) HSO.o.may (by rw [← HEQ.o]; simp) h1 h2)
        have C1 := hd (ctext_calls wi (HT.o _ HW.o) B k d L HK.o HRO.o.rds (by omega) (fun f hf => by have := may_len (HSO.o.may f hf); omega))
        have heq : ((bs (cardT L)).toList == s.toList) = decide (cardT L = S) := by rw [bt_eqL, HS.o]
        by_cases hg : cardE L = 0 ∧ cardT L = S
        · have HRD := hd (HOF.o hg.1 hg.2)
          rw [hg.1] at C1
          rw [decide_eq_true hg.2] at heq
          generalize bs (cardT L) = T at C1 heq
          clear hg hr0
          go_wp2_with fail
          refine C1.o.mono ?_
          rintro e w2 ⟨rfl, hb2⟩
          have HR2 := hd (HRO.o.below hb2)
          have HW2 := hd (HW.o.trans (hb2.mono HW.o.size))
          clear hb2
          go_wp2
          go_ret2
          exact ParR.yes HRD.o HK.o HR2.o HW2.o
        · have HNO := hd (show ∀ l, ¬ Reads S l from fun m h => by
            have e := HND.o m h
            subst e
            exact hg (reads_text h))
          by_cases he : cardE L = 0
          · have hne : ¬ cardT L = S := fun h => hg ⟨he, h⟩
            rw [he] at C1
            rw [decide_eq_false hne] at heq
            generalize bs (cardT L) = T at C1 heq
            clear hg hr0 he hne
            go_wp2_with fail
            refine C1.o.mono ?_
            rintro e w2 ⟨rfl, hb2⟩
            have HW2 := hd (HW.o.trans (hb2.mono HW.o.size))
            clear hb2
            go_wp2
            go_ret2
            exact ParR.no HNO.o HW2.o
          · have nE : (cardE L != 0) = true := by simpa using he
            generalize cardE L = ce at C1 nE
            generalize bs (cardT L) = T at C1
            clear hg hr0 he heq HOF
            go_wp2_with fail
            refine C1.o.mono ?_
            rintro e w2 ⟨rfl, hb2⟩
            have HW2 := hd (HW.o.trans (hb2.mono HW.o.size))
            clear hb2
            go_wp2
            go_ret2
            exact ParR.no HNO.o HW2.o
      · have hrb : (rb.toList == []) = false := by
          rw [HRB.o, bs_toL]
          cases r with
          | nil => exact absurd rfl hr0
          | cons a t => rfl
        have hrd : rb.data.toList = r := by rw [HRB.o, bs_data]
        have hsz : rb.size ≤ 900 := by rw [hrz]; omega
        have C1 := cutc_calls 10 rb (by omega) wi (HT.o _ HW.o).1
        rw [hrd] at C1
        by_cases hin : (10 : UInt8) ∈ r
        · simp only [if_pos hin] at C1
          have HSP := hd (bef_aft 10 r hin)
          have hal := aft_len 10 r hin
          have hbl := bef_le 10 r
          have HCUT := hd (fun m (h : Reads S m) => reads_cut HSO.o.may (show S = textL L ++ (bef 10 r ++ 10 :: aft 10 r) by rw [← HSP.o]; exact HSO.o.eq) (bef_not 10 r) h)
          have HNX := hd (fun f (h : Found (bef 10 r) f) => sofar_next HSO.o HSP.o h)
          have C2 := fun W (h : Below w.heap.size w W) => fparse_calls (bs (bef 10 r)) (by rw [bs_size]; omega) W (HT.o W h)
          rw [bs_data] at C2
          have hz2' : (bs (aft 10 r)).size = (aft 10 r).length := bs_size _
          have HAF := hd (show bs (aft 10 r) = bs (aft 10 r) from rfl)
          obtain ⟨af, haf⟩ : ∃ af, aft 10 r = af := ⟨_, rfl⟩
          rw [haf] at hal hz2' HNX C1
          have K1 := hd C1
          rcases par_or (bef 10 r) with ⟨f, hf, e1, e2⟩ | ⟨hno, e1, e2⟩
          · rw [e1, e2] at C2
            have HSN := hd (HNX.o f hf)
            obtain ⟨fk, fl, fv⟩ := f
            simp only [fldR, fldV] at C2
            have K2 := hd C2
            clear C1 C2 hin e1 e2 hr0 haf hf HCUT HNX HSP HAF hrd
            go_wp2_with fail
            refine K1.o.mono ?_
            rintro e w2 ⟨rfl, hb2⟩
            have HW2 := hd (HW.o.trans (hb2.mono HW.o.size))
            have HR2 := hd (HRO.o.below hb2)
            clear hb2
            go_wp2_with fail
            refine (K2.o _ HW2.o).mono ?_
            rintro e w3 ⟨rfl, hb3⟩
            have HW3 := hd (HW2.o.trans (hb3.mono HW2.o.size))
            have HR3 := hd (HR2.o.below hb3)
            have hsw := HW3.o.size
            clear hb3
            go_wp2_with (at_builtin; go_loud (refine wpList_append_row rfl _ _ 118 rfl (From w.heap.size) 128 i0 (.agg #[.int .i64 0, .int .i64 0, .string ⟨#[]⟩]) 3 32 Tryz.underlying118 hi hz0 hz1 hz2 rfl B k d (fsE L) rfl ((HR3.o.alloc _).alloc _) ⟨_, 0, none⟩ 1 1 [.int .i64 fk, .int .i64 fl, .string (bs fv)] rfl rfl (cells_at (Blk.new_ _ _ (by simp) _ _) rfl) (by simp [Value.oneCell']) (by omega) (by unfold maxLen; omega) (by omega) ?_; intro A2 c2 w4 hown4 hchg4))
            go_roundw
            case rel =>
              refine ⟨_, af, L ++ [⟨fk, fl, fv⟩], A2, k + 1, c2, rfl, hz2', rfl, rfl, hd (by rw [List.length_append, HK.o]; rfl), by omega, HSN, hd ?_, hd ?_⟩
              · rw [fsE_snoc]
                exact hown4.mono (fun q hq => by
                  rcases hq with hq | hq
                  · exact hq
                  · simp at hq; show w.heap.size ≤ q; omega)
              · exact HW3.o.trans ((((Chg.refl (From w.heap.size) w3).alloc _).alloc _).trans hchg4 (fun q hq => .inl hq) |>.below (fun _ h => h) hsw)
            case measure => show (bs af).size < rb.size; omega
          · rw [e1, e2] at C2
            have HNO := hd (show ∀ l, ¬ Reads S l from fun m h => by obtain ⟨f, hf⟩ := HCUT.o m h; exact hno f hf)
            simp only [fldR, fldV, noFld] at C2
            have K2 := hd C2
            clear hno C1 C2 hin e1 e2 hr0 haf HCUT HNX HSP HAF hrd
            go_wp2_with fail
            refine K1.o.mono ?_
            rintro e w2 ⟨rfl, hb2⟩
            have HW2 := hd (HW.o.trans (hb2.mono HW.o.size))
            clear hb2
            go_wp2_with fail
            refine (K2.o _ HW2.o).mono ?_
            rintro e w3 ⟨rfl, hb3⟩
            have HW3 := hd (HW2.o.trans (hb3.mono HW2.o.size))
            clear hb3
            go_wp2
            go_ret2
            exact ParR.no HNO.o (HW3.o.alloc HW3.o.size _)
        · simp only [if_neg hin] at C1
          have HNO := hd (show ∀ l, ¬ Reads S l from fun m h => hr0 (reads_end HSO.o.may HSO.o.eq hin h).2)
          obtain ⟨p, pe, hp⟩ : ∃ p pe, ∀ W, Below w.heap.size w W → Calls Tryz.prog 105 #[.string rb] W fun e w' => e = .returned (fldR p pe) ∧ Below W.heap.size W w' := ⟨_, _, fun W h => fparse_calls rb (by omega) W (HT.o W h)⟩
          obtain ⟨pk, pl, pv⟩ := p
          simp only [fldR, fldV] at hp
          have K1 := hd C1
          have K2 := hd hp
          clear hp C1 hin hr0 hrd
          go_wp2_with fail
          refine K1.o.mono ?_
          rintro e w2 ⟨rfl, hb2⟩
          have HW2 := hd (HW.o.trans (hb2.mono HW.o.size))
          clear hb2
          go_wp2_with fail
          refine (K2.o _ HW2.o).mono ?_
          rintro e w3 ⟨rfl, hb3⟩
          have HW3 := hd (HW2.o.trans (hb3.mono HW2.o.size))
          clear hb3
          go_wp2
          go_ret2
          exact ParR.no HNO.o (HW3.o.alloc HW3.o.size _)

end Go.Proofs.YtogjokofmfpmgaaGreatDoor
namespace Go.Proofs.YtogjokofmfpmgaaGreatDoor
open Go.RowKit

theorem cis_calls (s : ByteArray) (hs : s.size ≤ 1000000) (w : World) (ht : Tbs w) : Calls Tryz.prog 88 #[.string s] w fun e w' => e = .returned (.bool (decide (crdE s.data.toList = 0))) ∧ Below w.heap.size w w' := by
  have C1 := hd (cparse_calls s hs w ht)
  clear ht
  obtain ⟨v, hv⟩ : ∃ v, decide (crdE s.data.toList = 0) = v := ⟨_, rfl⟩
  rw [hv]
  have hve : (crdE s.data.toList == 0) = v := by rw [← hv]; rfl
  have HV := hd hve
  clear hv hve
  go_enter Tryz.func88, Tryz.ntmps88
  go_wp2_with fail
  refine C1.o.mono ?_
  rintro e w1 ⟨⟨B, m, d, rfl, hm, hr, hb1⟩⟩
  have HB1 := hd hb1
  clear hm hr hb1
  go_wp2
  go_ret
  exact ⟨retBB HV.o, HB1.o⟩

end Go.Proofs.YtogjokofmfpmgaaGreatDoor
namespace Go.Proofs.YtogjokofmfpmgaaGreatDoor
open Go.RowKit Go.Lib

set_option maxHeartbeats 1000000 in
theorem cmay_calls (w : World) (ck cv : Int) : Calls Tryz.prog 89 #[.agg #[.int .i64 ck, .int .i64 cv]] w fun e w' => e = .returned (.bool (mayP ck cv)) ∧ Below w.heap.size w w' := by
  have HV : Hd (∃ b, b = mayP ck cv) := hd ⟨_, rfl⟩
  have hb := hd ((Below.refl w.heap.size w).alloc (Nat.le_refl _) (.cells #[.int .i64 ck, .int .i64 cv] 23))
  by_cases c0 : ck = 0
  · subst c0
    go_enter Tryz.func89, Tryz.ntmps89
    go_wp2
    go_ret
    exact ⟨rfl, hb.o⟩
  · by_cases c1 : ck = 1
    · subst c1
      go_enter Tryz.func89, Tryz.ntmps89
      go_wp2
      go_ret
      exact ⟨rfl, hb.o⟩
    · by_cases c2 : ck = 2
      · subst c2
        go_enter Tryz.func89, Tryz.ntmps89
        go_wp2
        go_ret
        exact ⟨rfl, hb.o⟩
      · by_cases c3 : ck = 3
        · subst c3
          go_enter Tryz.func89, Tryz.ntmps89
          go_wp2
          go_ret
          exact ⟨rfl, hb.o⟩
        · have e0 : (ck == 0) = false := by simpa using c0
          have e1 : (ck == 1) = false := by simpa using c1
          have e2 : (ck == 2) = false := by simpa using c2
          have e3 : (ck == 3) = false := by simpa using c3
          have HF : Hd (mayP ck cv = false) := hd (by simp [mayP, c0, c1, c2, c3])
          clear c0 c1 c2 c3
          go_enter Tryz.func89, Tryz.ntmps89
          go_wp2
          go_ret
          exact ⟨ret_bool HF.o.symm, hb.o⟩

set_option maxHeartbeats 1000000 in
theorem crmay_calls (w : World) (ck cv : Int) : Calls Tryz.prog 72 #[.agg #[.int .i64 ck, .int .i64 cv]] w fun e w' => e = .returned (.bool (mayP ck cv)) ∧ Below w.heap.size w w' := by
  have HV : Hd (∃ b, b = mayP ck cv) := hd ⟨_, rfl⟩
  have hb := hd ((Below.refl w.heap.size w).alloc (Nat.le_refl _) (.cells #[.int .i64 ck, .int .i64 cv] 23))
  by_cases c0 : ck = 0
  · subst c0
    go_enter Tryz.func72, Tryz.ntmps72
    go_wp2
    go_ret
    exact ⟨rfl, hb.o⟩
  · by_cases c1 : ck = 1
    · subst c1
      go_enter Tryz.func72, Tryz.ntmps72
      go_wp2
      go_ret
      exact ⟨rfl, hb.o⟩
    · by_cases c2 : ck = 2
      · subst c2
        go_enter Tryz.func72, Tryz.ntmps72
        go_wp2
        go_ret
        exact ⟨rfl, hb.o⟩
      · by_cases c3 : ck = 3
        · subst c3
          go_enter Tryz.func72, Tryz.ntmps72
          go_wp2
          go_ret
          exact ⟨rfl, hb.o⟩
        · have e0 : (ck == 0) = false := by simpa using c0
          have e1 : (ck == 1) = false := by simpa using c1
          have e2 : (ck == 2) = false := by simpa using c2
          have e3 : (ck == 3) = false := by simpa using c3
          have HF : Hd (mayP ck cv = false) := hd (by simp [mayP, c0, c1, c2, c3])
          clear c0 c1 c2 c3
          go_enter Tryz.func72, Tryz.ntmps72
          go_wp2
          go_ret
          exact ⟨ret_bool HF.o.symm, hb.o⟩

end Go.Proofs.YtogjokofmfpmgaaGreatDoor
namespace Go.Proofs.YtogjokofmfpmgaaGreatDoor
open Go.RowKit

/-- Sizes that a walk bears. -/
structure RqS (q : Rq) : Prop where
  tn : q.tn.length ≤ 1000000
  col : q.col.length ≤ 1000000
  uid : q.uid.length ≤ 1000000
  card : q.card.length ≤ 1000000
  ops : q.ops.length ≤ 1000000
  op : ∀ o ∈ q.ops, o.uid.length ≤ 1000000 ∧ o.card.length ≤ 1000000
def namA (h1 h2 h3 n1 n2 n3 : Bool) : Bool := (!h1 || n1) && (!h2 || n2) && (!h3 || n3)
def namC (ops : List OpV) : Bool := ops.all (fun o => uidB o.uid)
theorem nam_parts (q : Rq) : namedB q = (namA (hT q.k) (hC q.k) (hU q.k) (nameB q.tn) (nameB q.col) (uidB q.uid) && namC q.ops) := by
  unfold namedB namA namC
  simp only [Bool.and_assoc]

set_option maxRecDepth 100000 in
set_option maxHeartbeats 8000000 in
theorem named_calls (q : Rq) (A : Option Addr) (c : Nat) (h : isK q.k = true) (w : World) (hr : Rds w A q.ops.length 5 (opsE q.ops)) (hs : RqS q) :
    Calls Tryz.prog 67 #[reqV q A c, .agg (hasE q.k).toArray] w fun e w' => e = .returned (.bool (namedB q)) ∧ Below w.heap.size w w' := by
  have hsa := shapeA h
  have hb := hs.ops
  have C1 := fun W => name_calls (bs q.tn) (by rw [bs_size]; have := hs.tn; omega) W
  have C2 := fun W => name_calls (bs q.col) (by rw [bs_size]; have := hs.col; omega) W
  have C3 := fun W => uid_calls (bs q.uid) (by rw [bs_size]; have := hs.uid; omega) W
  have C4 := hd (fun o (ho : o ∈ q.ops) W => uid_calls (bs o.uid) (by rw [bs_size]; have := (hs.op o ho).1; omega) W)
  rw [bs_data] at C1 C2 C3
  obtain ⟨sb, hsq⟩ : ∃ sb, namedB q = sb := ⟨_, rfl⟩
  rw [hsq]
  rw [nam_parts q] at hsq
  obtain ⟨k, tn, col, uid, card, ck, cv, ops, tok, most, ticks⟩ := q
  simp only at *
  unfold reqV reqE hasE
  simp only
  generalize hT k = h1 at *
  generalize hC k = h2 at *
  generalize hU k = h3 at *
  generalize hCd k = h4 at *
  generalize hCn k = h5 at *
  generalize hO k = h6 at *
  generalize hTk k = h7 at *
  generalize hM k = h8 at *
  generalize hTi k = h9 at *
  generalize nameB tn = n1 at *
  generalize nameB col = n2 at *
  generalize uidB uid = n3 at *
  obtain ⟨sa, hA⟩ : ∃ sa, namA h1 h2 h3 n1 n2 n3 = sa := ⟨_, rfl⟩
  rw [hA] at hsq
  have HS := hd hsq
  have HA := hd hA
  replace C1 := hd C1
  replace C2 := hd C2
  replace C3 := hd C3
  obtain ⟨n, hn⟩ : ∃ n, ops.length = n := ⟨_, rfl⟩
  have HN := hd hn
  rw [hn] at hr hb ⊢
  have HR := hd hr
  clear hA hsq hn hr hs
  obtain ⟨X, hX⟩ : ∃ X, X = (w.alloc (.cells #[.int .i64 k, .string (bs tn), .string (bs col), .string (bs uid), .string (bs card), .int .i64 ck, .int .i64 cv, .slice A n c, .int .i64 tok, .int .i64 most, .int .i64 ticks] 26)).alloc (.cells #[.bool h1, .bool h2, .bool h3, .bool h4, .bool h5, .bool h6, .bool h7, .bool h8, .bool h9] 78) := ⟨_, rfl⟩
  have q1 : Blk X w.heap.size 26 #[.int .i64 k, .string (bs tn), .string (bs col), .string (bs uid), .string (bs card), .int .i64 ck, .int .i64 cv, .slice A n c, .int .i64 tok, .int .i64 most, .int .i64 ticks] := by rw [hX]; exact (Blk.new _ _ _).alloc _
  have q2 : Blk X (w.heap.size + 1) 78 #[.bool h1, .bool h2, .bool h3, .bool h4, .bool h5, .bool h6, .bool h7, .bool h8, .bool h9] := by rw [hX]; exact Blk.new_ _ _ (by simp) _ _
  have HBX := hd (show Below w.heap.size w X by rw [hX]; exact twoB _ _ _)
  have r1 := q1.at_ 1 rfl
  have r2 := q1.at_ 2 rfl
  have r3 := q1.at_ 3 rfl
  have r7 := q1.at_ 7 rfl
  have t0 := q2.at_ 0 rfl
  have t1 := q2.at_ 1 rfl
  have t2 := q2.at_ 2 rfl
  have HX := hd hX
  clear q1 q2 hX
  go_enter Tryz.func67, Tryz.ntmps67
  go_upto_region 1 with (fail)
  rw [← HX.o]
  go_cut [0, 1, 34] from 7 to 34 (fun _ _ s34 wx => s34 = .bool (!sa) ∧ wx = X)
  case first =>
    clear h
    rcases hsa with ⟨rfl, rfl, rfl, rfl, rfl⟩ | ⟨rfl, rfl, rfl, rfl, rfl⟩ | ⟨rfl, rfl, rfl, rfl, rfl⟩ | ⟨rfl, rfl, rfl, rfl, rfl⟩ | ⟨rfl, rfl, rfl, rfl, rfl⟩ | ⟨rfl, rfl, rfl, rfl, rfl⟩ <;> cases n1 <;> cases n2 <;> cases n3
    all_goals
      obtain rfl := HA.o
      go_wp2_with (first | (go_at_call 86; (with_reducible refine (C1.o _).mono ?_); rintro e w' ⟨rfl, rfl⟩) | (go_at_call 86; (with_reducible refine (C2.o _).mono ?_); rintro e w' ⟨rfl, rfl⟩) | (go_at_call 87; (with_reducible refine (C3.o _).mono ?_); rintro e w' ⟨rfl, rfl⟩))
      go_meet
      exact ⟨rfl, rfl⟩
  case rest =>
  obtain ⟨rfl, hwc⟩ := hcut
  subst hwc
  cases sa with
  | false =>
    go_wp2
    go_ret
    exact ⟨ret_bool (by rw [← HS.o]; rfl), HBX.o⟩
  | true =>
  have HS2 := hd (show namC ops = sb by rw [← HS.o]; rfl)
  clear hsa t0 t1 t2 r1 r2 r3 C1 C2 C3 HA
  go_wp2_with fail
  go_loopw [38, 6] (fun i _ wr => ∃ k : Nat, i = .int .i64 k ∧ k ≤ n ∧ Hd (namC (ops.take k) = true) ∧ Hd (Below w.heap.size w wr) ∧ Hd (Below wc.heap.size wc wr)) (fun i _ _ => n - (intOf i).toNat)
  case atStart => exact ⟨0, rfl, Nat.zero_le _, hd rfl, HBX, hd (Below.refl _ _)⟩
  case round =>
    obtain ⟨k, rfl, hk, HV, HB, HBC⟩ := hrel
    have hki : (0 : Int) ≤ (k : Int) := by omega
    by_cases hlt : k < n
    · have hlti : (k : Int) < (n : Int) := by omega
      have hkl : k < ops.length := by rw [HN.o]; exact hlt
      obtain ⟨g, o, rfl, hg, hc⟩ := HR.o.at_ (by omega)
      obtain ⟨x, hx⟩ : ∃ x, ops[k]'hkl = x := ⟨_, rfl⟩
      have HT : Hd (ops.take (k + 1) = ops.take k ++ [x]) := hd (by rw [List.take_succ_eq_append_getElem hkl, hx])
      have hmem : x ∈ ops := by rw [← hx]; exact List.getElem_mem hkl
      have HMEM := hd hmem
      have hcell : ∀ j u, j < 5 → (opEnc x)[j]? = some u → wr.cell? ⟨g, o + (k * 5 + j), none⟩ = some u := fun j u hj hv => (HB.o.cell (p := ⟨g, o + (k * 5 + j), none⟩) hg).trans (hc _ _ ((opsE_at ops k hkl j hj).trans (by rw [hx]; exact hv)))
      have K4 := C4.o x hmem
      rw [bs_data] at K4
      obtain ⟨xd, xu, xc, xk, xv⟩ := x
      have k0 := hcell 0 _ (by omega) rfl
      have k1 := hcell 1 _ (by omega) rfl
      have k2 := hcell 2 _ (by omega) rfl
      have k3 := hcell 3 _ (by omega) rfl
      have k4 := hcell 4 _ (by omega) rfl
      rw [← Nat.add_assoc] at k0 k1 k2 k3 k4
      rw [Nat.add_zero] at k0
      have HA := hd (HB.o.alloc HB.o.size (.cells #[.bool xd, .string (bs xu), .string (bs xc), .int .i64 xk, .int .i64 xv] 43))
      have HAC := hd (HBC.o.alloc HBC.o.size (.cells #[.bool xd, .string (bs xu), .string (bs xc), .int .i64 xk, .int .i64 xv] 43))
      have HBAD := hd (show uidB xu = false → sb = false from fun h => by
        rw [← HS2.o, namC]
        exact List.all_eq_false.2 ⟨_, HMEM.o, by simp [h]⟩)
      have HGO := hd (show uidB xu = true → namC (ops.take (k + 1)) = true from fun h => by
        have := HV.o
        unfold namC at *
        rw [HT.o, List.all_append, this]
        simpa using h)
      simp only at K4
      generalize uidB xu = ub at *
      replace K4 := hd K4
      clear hcell hc hx hkl hmem
      cases ub with
      | true =>
        have HG := hd (HGO.o rfl)
        go_wp2_with (go_at_call 87; refine (K4.o _).mono ?_; rintro e w' ⟨rfl, rfl⟩)
        go_roundw
        case rel => ((repeat apply Exists.intro); exact ⟨⟨k + 1, by go_num, by omega, HG, HA, HAC⟩, rfl⟩)
        case measure => simp [intOf]; omega
      | false =>
        have HG := hd (HBAD.o rfl)
        go_wp2_with (go_at_call 87; refine (K4.o _).mono ?_; rintro e w' ⟨rfl, rfl⟩)
        go_ret
        exact ⟨ret_bool HG.o.symm, HA.o⟩
    · obtain rfl : k = n := by omega
      have HE : Hd (sb = true) := hd (by
        rw [← HS2.o, ← HV.o, List.take_of_length_le (by rw [HN.o]; exact Nat.le_refl _)])
      go_wp2
      go_ret
      exact ⟨ret_bool HE.o.symm, HB.o⟩

end Go.Proofs.YtogjokofmfpmgaaGreatDoor
