/-
  The copy: Fold where the items are looked at.
-/
import Derived.Test.YtbeckfnhgeclnaaSeen
import Derived.Test.YtbeckfnhgeclnaaFoldA
import Derived.Deep.LoopGhost
import Derived.Deep.CutRange
import Derived.Deep.Cut
import Derived.StillTailTactics
namespace Go.Proofs.Ytbeckfnhgeclnaa
open Go.RowKit Go.Lib Go.Maps Go.WideMaps

theorem lawS : Keyed Try.prog 9 := string_keyed Try.underlying9
theorem zeroI (w : World) : (zeroValue 3).run Try.prog w = .ok (.int .i64 0) w := by kernel_rfl
theorem itsEnc_at (l : List It) (i : Nat) (h : i < l.length) (j : Nat) (hj : j < 4) : (itsEnc l)[i * 4 + j]? = (itEnc l[i])[j]? := flat_at itEnc 4 itEnc_len l i h j hj

set_option maxRecDepth 100000 in
set_option maxHeartbeats 8000000 in
theorem fold_items (w : World) (S : Nat → Prop) (b : Nat) (token : Int) (more : Bool) (ml : ML It) (h : Rep w S b token more ml) (hSw : ∀ q, S q → q < w.heap.size) (r : Rs) (items : List It) (A : Option Addr) (c : Nat) (hk : r.kind = 8) (he : r.err = 0) (ht : ¬ r.token < token)
    (hr : Rds w A items.length 4 (itsEnc items)) (hAS : items ≠ [] → ∀ q, Of A q → ¬ S q) (hl : ml.length + items.length ≤ 1000000) (hsz : ∀ x ∈ items, x.uid.length ≤ maxLen) :
    Calls Try.prog 21 #[.pointer (some ⟨b, 0, none⟩), .int .i64 token, .agg (rsEnc r A items.length c).toArray] w fun e w' =>
      (e = .returned (.int .i64 1) ∧ ¬ okIts token items ∧ Below w.heap.size w w') ∨ (e = .returned (.int .i64 0) ∧ okIts token items ∧ Rep w' (Plus S w.heap.size) b r.token r.more (foldIts (if token = 0 then [] else ml) items) ∧ Chg S w w') := by
  have HREP := hd h
  have HR := hd hr
  have HSW := hd hSw
  have HAS := hd hAS
  have HSZ := hd hsz
  obtain ⟨mb, hb, hO, hS⟩ := h
  have h1 := hb.at_ 1 rfl
  have hbl := hb.lt
  have hO' := om_avoid hO hb (by decide) (by decide)
  have HB := hd hb
  have HO := hd hO'
  obtain ⟨n, hn⟩ : ∃ n, items.length = n := ⟨_, rfl⟩
  have HN := hd hn
  rw [hn] at hl ⊢
  obtain ⟨kind, err, tok, version, card, index, mr⟩ := r
  simp only at hk he ht
  simp only [rsEnc]
  subst hk he
  have f3 : (token != token) = false := by simp
  have hmm := @run_makeMap Try.prog
  have hnl : n ≤ 1000000 := by omega
  obtain ⟨base, hbase⟩ : ∃ base, (if token = 0 then [] else ml) = base := ⟨_, rfl⟩
  rw [hbase]
  have HBASE := hd hbase
  clear hbase
  clear hb hO hO' hn hr hSw hAS hsz
  go_enter Try.func21, Try.ntmps21
  go_wp2_with fail
  have hB0 : Below w.heap.size w ((w.alloc (.cells #[.int .i64 8, .int .i64 0, .int .i64 tok, .int .i64 version, .string (bs card), .int .i64 index, .bool mr, .slice A n c] 35)).alloc (.map #[] 0)) := ((Below.refl _ w).alloc (Nat.le_refl _) _).alloc (by simp) _
  have hP0 : Blk ((w.alloc (.cells #[.int .i64 8, .int .i64 0, .int .i64 tok, .int .i64 version, .string (bs card), .int .i64 index, .bool mr, .slice A n c] 35)).alloc (.map #[] 0)) w.heap.size 35 #[.int .i64 8, .int .i64 0, .int .i64 tok, .int .i64 version, .string (bs card), .int .i64 index, .bool mr, .slice A n c] := (Blk.new w 35 _).alloc _
  have hM0 : ((w.alloc (.cells #[.int .i64 8, .int .i64 0, .int .i64 tok, .int .i64 version, .string (bs card), .int .i64 index, .bool mr, .slice A n c] 35)).alloc (.map #[] 0)).ownsMap Try.prog 9 (plainElem (H := Unit) Try.prog 3) (w.heap.size + 1) 0 (.map []) := by
    have h := World.ownsMap_made (H := Unit) (w.alloc (.cells #[.int .i64 8, .int .i64 0, .int .i64 tok, .int .i64 version, .string (bs card), .int .i64 index, .bool mr, .slice A n c] 35)) Try.prog 9 (plainElem Try.prog 3)
    rwa [World.size_alloc] at h
  have HB0 := hd hB0
  have HP0 := hd hP0
  have HM0 := hd hM0
  clear hB0 hP0 hM0 h1
  go_loopw [42] (fun i wr => ∃ (k : Nat) (D : DataW Unit), i = .int .i64 k ∧ k ≤ n ∧ wr.ownsMap Try.prog 9 (plainElem Try.prog 3) (w.heap.size + 1) k D ∧ Hd (Seen D (items.take k)) ∧ Hd (∀ j (h : j < items.length), j < k → badIt token (items.take j) items[j] = false) ∧ Hd (Below w.heap.size w wr) ∧ Hd (Blk wr w.heap.size 35 #[.int .i64 8, .int .i64 0, .int .i64 tok, .int .i64 version, .string (bs card), .int .i64 index, .bool mr, .slice A n c])) (fun i _ => n - (intOf i).toNat)
  case atStart => exact ⟨0, _, rfl, Nat.zero_le _, HM0.o, Seen.start, hd (fun j _ h => absurd h (Nat.not_lt_zero _)), HB0, HP0⟩
  case round =>
    clear HB0 HP0 HM0
    obtain ⟨k, D, rfl, hk, hown, HSEEN, HALL, HBE, HP⟩ := hrel
    have hki : (0 : Int) ≤ (k : Int) := by omega
    by_cases hlt : k < n
    · have hlti : (k : Int) < (n : Int) := by omega
      have hkl : k < items.length := by rw [HN.o]; exact hlt
      obtain ⟨g, o, rfl, hgw, hc⟩ := HR.o.at_ (by omega)
      obtain ⟨x, hx⟩ : ∃ x, items[k]'hkl = x := ⟨_, rfl⟩
      have HLEN0 : x.uid.length ≤ maxLen := by rw [← hx]; exact HSZ.o _ (List.getElem_mem hkl)
      have HKL := hd hkl
      have HTK : Hd (items.take (k + 1) = items.take k ++ [x]) := hd (by rw [List.take_succ_eq_append_getElem hkl, hx])
      have hcell : ∀ j u, j < 4 → (itEnc x)[j]? = some u → wr.cell? ⟨g, o + (k * 4 + j), none⟩ = some u := fun j u hj hv => (HBE.o.cell (p := ⟨g, o + (k * 4 + j), none⟩) hgw).trans (hc _ _ ((itsEnc_at items k hkl j hj).trans (by rw [hx]; exact hv)))
      have HX : Hd (items[k]'HKL.o = x) := hd hx
      obtain ⟨uid, ver, gone, text⟩ := x
      have k0 := hcell 0 _ (by omega) rfl
      have k1 := hcell 1 _ (by omega) rfl
      have k2 := hcell 2 _ (by omega) rfl
      have k3 := hcell 3 _ (by omega) rfl
      rw [← Nat.add_assoc] at k0 k1 k2 k3
      rw [Nat.add_zero] at k0
      obtain ⟨q, hq⟩ : ∃ q, cntU (items.take k) uid = q := ⟨_, rfl⟩
      have hqk : q ≤ k := by rw [← hq]; have := cntU_le (items.take k) uid; rw [List.length_take] at this; omega
      have HSEEN2 : Hd (Seen (D.put (.string uid) (.lit (.int .i64 ((q : Int) + 1)))) (items.take k ++ [(⟨uid, ver, gone, text⟩ : It)])) := hd (by
        have := HSEEN.o.step ⟨uid, ver, gone, text⟩
        simp only [hq] at this
        exact this)
      have hq2 : cntU (items.take k ++ [(⟨uid, ver, gone, text⟩ : It)]) uid = q + 1 := by rw [cntU_snoc, hq]; simp
      have HLEN : Hd ((bs uid).size ≤ maxLen) := hd (by rw [bs_size]; exact HLEN0)
      have hlm := hown.lt
      have OWNA := hd (fun (cs : Array Value) (t : TypeId) => hown.kept (World.grownBy_alloc wr (.cells cs t) none) (by simp))
      have HBA := hd (fun (cs : Array Value) (t : TypeId) => HBE.o.alloc HBE.o.size (.cells cs t))
      have HPA := hd (fun (cs : Array Value) (t : TypeId) => HP.o.alloc (.cells cs t))
      have HX0 := hd (fun (cs : Array Value) (t : TypeId) => Blk.new wr t cs)
      have HBE2 := badIt_eq token (items.take k) (⟨uid, ver, gone, text⟩ : It)
      simp only [hq] at HBE2
      have hp7 := HP.o.at_ 7 rfl
      have hpl := HP.o.lt
      have hq0 : (0 : Int) ≤ (q : Int) := by omega
      have hqn : (q : Int) ≤ 1000000 := by omega
      have HQ := hd hq
      have HQ2 := hd hq2
      clear hcell hc hown hx HLEN0 hkl hq hq2
      by_cases v2 : token = 0
      · have f2 : (token != 0) = false := by simpa using v2
        clear v2
        by_cases v1 : ver < 1
        · have f1 : decide (ver < 1) = true := by simpa using v1
          have hbad : badIt token (items.take k) (items[k]'HKL.o) = true := by rw [HX.o, HBE2, f1]; rfl
          clear HBE2 v1
          have HBAD := hd (hbad : badIt token (items.take k) (items[k]'HKL.o) = true)
          clear hbad
          go_wp2_with (first
            | (at_lookup; refine wpList_lookup_own_int _ rfl _ _ 90 rfl 9 3 .i64 lawS Try.underlying90 Try.underlying3 (zeroI _) (w.heap.size + 1) _ _ rfl (OWNA.o _ _) _ _ rfl (keyOf_string_mk Try.underlying9 HLEN.o) ?_; intro c1 hat1 hwc1; have hc1 := cnt_eq HSEEN.o HQ.o hat1; subst hc1; clear hat1 hwc1)
            | (at_mapUpdate; refine wpList_mapUpdate_own _ rfl _ _ _ 90 rfl 9 3 lawS Try.underlying90 _ (w.heap.size + 1) k _ rfl (OWNA.o _ _) (by unfold maxLen; omega) _ _ _ rfl rfl (keyOf_string_mk Try.underlying9 HLEN.o) _ [] (plainElem_int Try.underlying3 (WalkArith.wf_i64 (by omega))) ?_; intro w1 hown1 hgrow1; have OWN2 := hd hown1; obtain ⟨c2, hrun2, hat2, hwc2⟩ := hown1.lookup_int lawS Try.underlying90 Try.underlying3 (zeroI _) (keyOf_string_mk Try.underlying9 HLEN.o); have hc2 := cnt_eq HSEEN2.o HQ2.o hat2; subst hc2; clear hat2 hwc2; have hbx := (HX0.o _ _).grown hgrow1 (by simp <;> omega); have x0' := hbx.at_ 0 rfl; have x1' := hbx.at_ 1 rfl; have BE1 := hd ((HBA.o _ _).grown hgrow1 (by simp <;> omega) (fun j hj => by cases hj; omega)); have BP1 := hd ((HPA.o _ _).grown hgrow1 (by simp)); clear hown1 hgrow1 hbx))
          go_wp2
          go_ret
          exact .inl ⟨rfl, okIts_bad HKL.o HBAD.o, BE1.o⟩
        · have f1 : decide (ver < 1) = false := by simpa using v1
          by_cases v3 : 0 < q
          · have f4 : decide ((1 : Int) < (q : Int) + 1) = true := by simp; omega
            have hbad : badIt token (items.take k) (items[k]'HKL.o) = true := by rw [HX.o, HBE2, f1, f2]; simpa using v3
            clear HBE2 v1
            have HBAD := hd (hbad : badIt token (items.take k) (items[k]'HKL.o) = true)
            clear hbad
            go_wp2_with (first
            | (at_lookup; refine wpList_lookup_own_int _ rfl _ _ 90 rfl 9 3 .i64 lawS Try.underlying90 Try.underlying3 (zeroI _) (w.heap.size + 1) _ _ rfl (OWNA.o _ _) _ _ rfl (keyOf_string_mk Try.underlying9 HLEN.o) ?_; intro c1 hat1 hwc1; have hc1 := cnt_eq HSEEN.o HQ.o hat1; subst hc1; clear hat1 hwc1)
            | (at_mapUpdate; refine wpList_mapUpdate_own _ rfl _ _ _ 90 rfl 9 3 lawS Try.underlying90 _ (w.heap.size + 1) k _ rfl (OWNA.o _ _) (by unfold maxLen; omega) _ _ _ rfl rfl (keyOf_string_mk Try.underlying9 HLEN.o) _ [] (plainElem_int Try.underlying3 (WalkArith.wf_i64 (by omega))) ?_; intro w1 hown1 hgrow1; have OWN2 := hd hown1; obtain ⟨c2, hrun2, hat2, hwc2⟩ := hown1.lookup_int lawS Try.underlying90 Try.underlying3 (zeroI _) (keyOf_string_mk Try.underlying9 HLEN.o); have hc2 := cnt_eq HSEEN2.o HQ2.o hat2; subst hc2; clear hat2 hwc2; have hbx := (HX0.o _ _).grown hgrow1 (by simp <;> omega); have x0' := hbx.at_ 0 rfl; have x1' := hbx.at_ 1 rfl; have BE1 := hd ((HBA.o _ _).grown hgrow1 (by simp <;> omega) (fun j hj => by cases hj; omega)); have BP1 := hd ((HPA.o _ _).grown hgrow1 (by simp)); clear hown1 hgrow1 hbx))
            go_wp2
            go_ret
            exact .inl ⟨rfl, okIts_bad HKL.o HBAD.o, BE1.o⟩
          · have f4 : decide ((1 : Int) < (q : Int) + 1) = false := by simp; omega
            have hgood : badIt token (items.take k) (items[k]'HKL.o) = false := by rw [HX.o, HBE2, f1, f2]; simpa using v3
            clear HBE2 v1
            have HGOOD := hd (hgood : badIt token (items.take k) (items[k]'HKL.o) = false)
            clear hgood
            go_wp2_with (first
            | (at_lookup; refine wpList_lookup_own_int _ rfl _ _ 90 rfl 9 3 .i64 lawS Try.underlying90 Try.underlying3 (zeroI _) (w.heap.size + 1) _ _ rfl (OWNA.o _ _) _ _ rfl (keyOf_string_mk Try.underlying9 HLEN.o) ?_; intro c1 hat1 hwc1; have hc1 := cnt_eq HSEEN.o HQ.o hat1; subst hc1; clear hat1 hwc1)
            | (at_mapUpdate; refine wpList_mapUpdate_own _ rfl _ _ _ 90 rfl 9 3 lawS Try.underlying90 _ (w.heap.size + 1) k _ rfl (OWNA.o _ _) (by unfold maxLen; omega) _ _ _ rfl rfl (keyOf_string_mk Try.underlying9 HLEN.o) _ [] (plainElem_int Try.underlying3 (WalkArith.wf_i64 (by omega))) ?_; intro w1 hown1 hgrow1; have OWN2 := hd hown1; obtain ⟨c2, hrun2, hat2, hwc2⟩ := hown1.lookup_int lawS Try.underlying90 Try.underlying3 (zeroI _) (keyOf_string_mk Try.underlying9 HLEN.o); have hc2 := cnt_eq HSEEN2.o HQ2.o hat2; subst hc2; clear hat2 hwc2; have hbx := (HX0.o _ _).grown hgrow1 (by simp <;> omega); have x0' := hbx.at_ 0 rfl; have x1' := hbx.at_ 1 rfl; have BE1 := hd ((HBA.o _ _).grown hgrow1 (by simp <;> omega) (fun j hj => by cases hj; omega)); have BP1 := hd ((HPA.o _ _).grown hgrow1 (by simp)); clear hown1 hgrow1 hbx))
            go_wp2
            go_roundw
            case rel =>
              refine ⟨k + 1, _, by go_num, by omega, OWN2.o, hd (by rw [HTK.o]; exact HSEEN2.o), hd (fun j hj hjk => ?_), BE1, BP1⟩
              by_cases hjj : j < k
              · exact HALL.o j hj hjj
              · obtain rfl : j = k := by omega
                exact HGOOD.o
            case measure => simp [intOf]; omega
      · have f2 : (token != 0) = true := by simpa using v2
        clear v2
        by_cases v1 : ver < 1
        · have f1 : decide (ver < 1) = true := by simpa using v1
          have hbad : badIt token (items.take k) (items[k]'HKL.o) = true := by rw [HX.o, HBE2, f1]; rfl
          clear HBE2 v1
          have HBAD := hd (hbad : badIt token (items.take k) (items[k]'HKL.o) = true)
          clear hbad
          go_wp2_with (first
            | (at_lookup; refine wpList_lookup_own_int _ rfl _ _ 90 rfl 9 3 .i64 lawS Try.underlying90 Try.underlying3 (zeroI _) (w.heap.size + 1) _ _ rfl (OWNA.o _ _) _ _ rfl (keyOf_string_mk Try.underlying9 HLEN.o) ?_; intro c1 hat1 hwc1; have hc1 := cnt_eq HSEEN.o HQ.o hat1; subst hc1; clear hat1 hwc1)
            | (at_mapUpdate; refine wpList_mapUpdate_own _ rfl _ _ _ 90 rfl 9 3 lawS Try.underlying90 _ (w.heap.size + 1) k _ rfl (OWNA.o _ _) (by unfold maxLen; omega) _ _ _ rfl rfl (keyOf_string_mk Try.underlying9 HLEN.o) _ [] (plainElem_int Try.underlying3 (WalkArith.wf_i64 (by omega))) ?_; intro w1 hown1 hgrow1; have OWN2 := hd hown1; obtain ⟨c2, hrun2, hat2, hwc2⟩ := hown1.lookup_int lawS Try.underlying90 Try.underlying3 (zeroI _) (keyOf_string_mk Try.underlying9 HLEN.o); have hc2 := cnt_eq HSEEN2.o HQ2.o hat2; subst hc2; clear hat2 hwc2; have hbx := (HX0.o _ _).grown hgrow1 (by simp <;> omega); have x0' := hbx.at_ 0 rfl; have x1' := hbx.at_ 1 rfl; have BE1 := hd ((HBA.o _ _).grown hgrow1 (by simp <;> omega) (fun j hj => by cases hj; omega)); have BP1 := hd ((HPA.o _ _).grown hgrow1 (by simp)); clear hown1 hgrow1 hbx))
          go_wp2
          go_ret
          exact .inl ⟨rfl, okIts_bad HKL.o HBAD.o, BE1.o⟩
        · have f1 : decide (ver < 1) = false := by simpa using v1
          by_cases v4 : ver ≤ token
          · have f3' : decide (ver ≤ token) = true := by simpa using v4
            have hbad : badIt token (items.take k) (items[k]'HKL.o) = true := by rw [HX.o, HBE2, f1, f2, f3']; rfl
            clear HBE2 v1 v4
            have HBAD := hd (hbad : badIt token (items.take k) (items[k]'HKL.o) = true)
            clear hbad
            go_wp2_with (first
            | (at_lookup; refine wpList_lookup_own_int _ rfl _ _ 90 rfl 9 3 .i64 lawS Try.underlying90 Try.underlying3 (zeroI _) (w.heap.size + 1) _ _ rfl (OWNA.o _ _) _ _ rfl (keyOf_string_mk Try.underlying9 HLEN.o) ?_; intro c1 hat1 hwc1; have hc1 := cnt_eq HSEEN.o HQ.o hat1; subst hc1; clear hat1 hwc1)
            | (at_mapUpdate; refine wpList_mapUpdate_own _ rfl _ _ _ 90 rfl 9 3 lawS Try.underlying90 _ (w.heap.size + 1) k _ rfl (OWNA.o _ _) (by unfold maxLen; omega) _ _ _ rfl rfl (keyOf_string_mk Try.underlying9 HLEN.o) _ [] (plainElem_int Try.underlying3 (WalkArith.wf_i64 (by omega))) ?_; intro w1 hown1 hgrow1; have OWN2 := hd hown1; obtain ⟨c2, hrun2, hat2, hwc2⟩ := hown1.lookup_int lawS Try.underlying90 Try.underlying3 (zeroI _) (keyOf_string_mk Try.underlying9 HLEN.o); have hc2 := cnt_eq HSEEN2.o HQ2.o hat2; subst hc2; clear hat2 hwc2; have hbx := (HX0.o _ _).grown hgrow1 (by simp <;> omega); have x0' := hbx.at_ 0 rfl; have x1' := hbx.at_ 1 rfl; have BE1 := hd ((HBA.o _ _).grown hgrow1 (by simp <;> omega) (fun j hj => by cases hj; omega)); have BP1 := hd ((HPA.o _ _).grown hgrow1 (by simp)); clear hown1 hgrow1 hbx))
            go_wp2
            go_ret
            exact .inl ⟨rfl, okIts_bad HKL.o HBAD.o, BE1.o⟩
          · have f3' : decide (ver ≤ token) = false := by simpa using v4
            by_cases v3 : 0 < q
            · have f4 : decide ((1 : Int) < (q : Int) + 1) = true := by simp; omega
              have hbad : badIt token (items.take k) (items[k]'HKL.o) = true := by rw [HX.o, HBE2, f1, f2, f3']; simpa using v3
              clear HBE2 v1 v4
              have HBAD := hd (hbad : badIt token (items.take k) (items[k]'HKL.o) = true)
              clear hbad
              go_wp2_with (first
            | (at_lookup; refine wpList_lookup_own_int _ rfl _ _ 90 rfl 9 3 .i64 lawS Try.underlying90 Try.underlying3 (zeroI _) (w.heap.size + 1) _ _ rfl (OWNA.o _ _) _ _ rfl (keyOf_string_mk Try.underlying9 HLEN.o) ?_; intro c1 hat1 hwc1; have hc1 := cnt_eq HSEEN.o HQ.o hat1; subst hc1; clear hat1 hwc1)
            | (at_mapUpdate; refine wpList_mapUpdate_own _ rfl _ _ _ 90 rfl 9 3 lawS Try.underlying90 _ (w.heap.size + 1) k _ rfl (OWNA.o _ _) (by unfold maxLen; omega) _ _ _ rfl rfl (keyOf_string_mk Try.underlying9 HLEN.o) _ [] (plainElem_int Try.underlying3 (WalkArith.wf_i64 (by omega))) ?_; intro w1 hown1 hgrow1; have OWN2 := hd hown1; obtain ⟨c2, hrun2, hat2, hwc2⟩ := hown1.lookup_int lawS Try.underlying90 Try.underlying3 (zeroI _) (keyOf_string_mk Try.underlying9 HLEN.o); have hc2 := cnt_eq HSEEN2.o HQ2.o hat2; subst hc2; clear hat2 hwc2; have hbx := (HX0.o _ _).grown hgrow1 (by simp <;> omega); have x0' := hbx.at_ 0 rfl; have x1' := hbx.at_ 1 rfl; have BE1 := hd ((HBA.o _ _).grown hgrow1 (by simp <;> omega) (fun j hj => by cases hj; omega)); have BP1 := hd ((HPA.o _ _).grown hgrow1 (by simp)); clear hown1 hgrow1 hbx))
              go_wp2
              go_ret
              exact .inl ⟨rfl, okIts_bad HKL.o HBAD.o, BE1.o⟩
            · have f4 : decide ((1 : Int) < (q : Int) + 1) = false := by simp; omega
              have hgood : badIt token (items.take k) (items[k]'HKL.o) = false := by rw [HX.o, HBE2, f1, f2, f3']; simpa using v3
              clear HBE2 v1 v4
              have HGOOD := hd (hgood : badIt token (items.take k) (items[k]'HKL.o) = false)
              clear hgood
              go_wp2_with (first
            | (at_lookup; refine wpList_lookup_own_int _ rfl _ _ 90 rfl 9 3 .i64 lawS Try.underlying90 Try.underlying3 (zeroI _) (w.heap.size + 1) _ _ rfl (OWNA.o _ _) _ _ rfl (keyOf_string_mk Try.underlying9 HLEN.o) ?_; intro c1 hat1 hwc1; have hc1 := cnt_eq HSEEN.o HQ.o hat1; subst hc1; clear hat1 hwc1)
            | (at_mapUpdate; refine wpList_mapUpdate_own _ rfl _ _ _ 90 rfl 9 3 lawS Try.underlying90 _ (w.heap.size + 1) k _ rfl (OWNA.o _ _) (by unfold maxLen; omega) _ _ _ rfl rfl (keyOf_string_mk Try.underlying9 HLEN.o) _ [] (plainElem_int Try.underlying3 (WalkArith.wf_i64 (by omega))) ?_; intro w1 hown1 hgrow1; have OWN2 := hd hown1; obtain ⟨c2, hrun2, hat2, hwc2⟩ := hown1.lookup_int lawS Try.underlying90 Try.underlying3 (zeroI _) (keyOf_string_mk Try.underlying9 HLEN.o); have hc2 := cnt_eq HSEEN2.o HQ2.o hat2; subst hc2; clear hat2 hwc2; have hbx := (HX0.o _ _).grown hgrow1 (by simp <;> omega); have x0' := hbx.at_ 0 rfl; have x1' := hbx.at_ 1 rfl; have BE1 := hd ((HBA.o _ _).grown hgrow1 (by simp <;> omega) (fun j hj => by cases hj; omega)); have BP1 := hd ((HPA.o _ _).grown hgrow1 (by simp)); clear hown1 hgrow1 hbx))
              go_wp2
              go_roundw
              case rel =>
                refine ⟨k + 1, _, by go_num, by omega, OWN2.o, hd (by rw [HTK.o]; exact HSEEN2.o), hd (fun j hj hjk => ?_), BE1, BP1⟩
                by_cases hjj : j < k
                · exact HALL.o j hj hjj
                · obtain rfl : j = k := by omega
                  exact HGOOD.o
              case measure => simp [intOf]; omega
    · obtain rfl : k = n := by omega
      have HOK : Hd (okIts token items) := hd (fun j hj => HALL.o j hj (by rw [HN.o] at hj; exact hj))
      have HBR := hd (HB.o.below HBE.o hbl)
      have HOR := hd (HO.o.shrink.below HBE.o)
      have hbr := HBR.o.lt
      have hs0 := HBE.o.size
      have hpl := HP.o.lt
      clear hown HSEEN HALL
      go_upto_if 73 with (fail)
      go_cut [] from 72 to 77 (fun wx => ∃ (mb2 : Nat) (S2 : Nat → Prop), Hd (Blk wx b 89 #[.pointer (some ⟨mb2, 0, none⟩), .int .i64 token, .bool more]) ∧ Hd (OmEntItem wx S2 mb2 base) ∧ Hd (∀ q, S2 q → (S q ∨ w.heap.size ≤ q) ∧ q < wx.heap.size ∧ q ≠ b ∧ q ≠ w.heap.size) ∧ Hd (Blk wx w.heap.size 35 #[.int .i64 8, .int .i64 0, .int .i64 tok, .int .i64 version, .string (bs card), .int .i64 index, .bool mr, .slice A k c]) ∧ Hd (Chg S w wx))
      case first =>
        by_cases v2 : token = 0
        · have f2 : (token == 0) = true := by simpa using v2
          have hbs : base = [] := by rw [← HBASE.o, if_pos v2]
          have HBS := hd hbs
          have hb0 := HBR.o.at_ 0 rfl
          have hb1 := HBR.o.at_ 1 rfl
          clear v2 hbs
          go_wp2_with fail
          refine (omnewEntItem_calls wr (fun q => wr.heap.size ≤ q) (Nat.le_refl _)).mono ?_
          rintro e w1 ⟨rfl, hO1, hbe1⟩
          have hbb := HBR.o.below hbe1 hbr
          have y0 := hbb.at_ 0 rfl
          have q0 := hbb.frozen 0
          have hsz1 := hbe1.size
          have HBB := hd hbb
          have HO1 := hd hO1
          have HBE1 := hd hbe1
          have HP1 := hd (HP.o.below hbe1 hpl)
          obtain ⟨nb, hnb⟩ : ∃ nb, nb = wr.heap.size := ⟨_, rfl⟩
          have HNB := hd hnb
          clear hbb hO1 hbe1 hnb
          go_wp2_with fail
          go_meet
          refine ⟨wr.heap.size, fun q => wr.heap.size ≤ q ∧ q < w1.heap.size, hd (HBB.o.set_ 0 _), hd ?_, hd ?_, hd ?_, hd ?_⟩
          · rw [HBS.o]
            exact HO1.o.shrink.chg ((Chg.refl (One b) w1).setCell (p := ⟨b, 0, none⟩) (.inl rfl) _) (fun q hq hb => by cases hb; omega)
          · intro q hq
            rw [size_setCell]
            omega
          · exact HP1.o.far (p := ⟨b, 0, none⟩) (by show w.heap.size ≠ b; omega) _
          · exact ((Chg.of_below S HBE.o).trans (Chg.of_below Non HBE1.o) (fun _ h => h.elim)).setCell (.inl hS) _
        · have f2 : (token == 0) = false := by simpa using v2
          have hbs : base = ml := by rw [← HBASE.o, if_neg v2]
          have HBS := hd hbs
          clear v2 hbs
          go_wp2_with fail
          go_meet
          refine ⟨mb, _, HBR, hd (by rw [HBS.o]; exact HOR.o), hd (fun q hq => ?_), HP, hd (Chg.of_below S HBE.o)⟩
          obtain ⟨⟨h1, h2⟩, h3⟩ := hq
          exact ⟨.inl h1, by omega, h2, by omega⟩
      case rest =>
        obtain ⟨mb2, S2, HB2, HO2, HS2, HP2, HC2⟩ := hcut
        have hp7 := HP2.o.at_ 7 rfl
        have hpl2 := HP2.o.lt
        clear HBE HP HBR HOR hbr hs0 hpl
        go_wp2_with fail
        go_loopw [81] (fun i wr => ∃ (j : Nat) (S3 : Nat → Prop), i = .int .i64 j ∧ j ≤ k ∧ Hd (Blk wr b 89 #[.pointer (some ⟨mb2, 0, none⟩), .int .i64 token, .bool more]) ∧ Hd (OmEntItem wr S3 mb2 (foldIts base (items.take j))) ∧ Hd (∀ q, S3 q → (S q ∨ w.heap.size ≤ q) ∧ q < wr.heap.size ∧ q ≠ b ∧ q ≠ w.heap.size) ∧ Hd (Blk wr w.heap.size 35 #[.int .i64 8, .int .i64 0, .int .i64 tok, .int .i64 version, .string (bs card), .int .i64 index, .bool mr, .slice A k c]) ∧ Hd (Chg S w wr)) (fun i _ => k - (intOf i).toNat)
        case atStart => exact ⟨0, S2, rfl, Nat.zero_le _, HB2, HO2, HS2, HP2, HC2⟩
        case round =>
          clear HB2 HO2 HS2 HP2 HC2 hp7 hpl2
          obtain ⟨j, S3, rfl, hj, HB3, HO3, HS3, HP3, HC3⟩ := hrel
          have hb0 := HB3.o.at_ 0 rfl
          have hb1 := HB3.o.at_ 1 rfl
          have hb3l := HB3.o.lt
          have hsw := HC3.o.size
          have hp7 := HP3.o.at_ 7 rfl
          have hpl3 := HP3.o.lt
          by_cases hlt : j < k
          · have hlti : (j : Int) < (k : Int) := by omega
            have hji : (0 : Int) ≤ (j : Int) := by omega
            have hjl : j < items.length := by rw [HN.o]; exact hlt
            obtain ⟨g, o, rfl, hgw, hc⟩ := (HR.o.chg HC3.o (HAS.o (fun e => by rw [e] at hjl; cases hjl))).at_ (by omega)
            obtain ⟨x, hx⟩ : ∃ x, items[j]'hjl = x := ⟨_, rfl⟩
            have HST : Hd (foldIts base (items.take (j + 1)) = stepIt (foldIts base (items.take j)) x) := hd (by rw [List.take_succ_eq_append_getElem hjl, hx, foldIts_snoc])
            have HFL : Hd ((foldIts base (items.take j)).length ≤ 1000000) := hd (by
              have h1 := take_len_le base items j
              have h2 : base.length ≤ ml.length := by rw [← HBASE.o]; split <;> simp
              rw [HN.o] at h1
              omega)
            have hcell : ∀ i u, i < 4 → (itEnc x)[i]? = some u → wr.cell? ⟨g, o + (j * 4 + i), none⟩ = some u := fun i u hi hv => hc _ _ ((itsEnc_at items j hjl i hi).trans (by rw [hx]; exact hv))
            obtain ⟨uid, ver, gone, text⟩ := x
            have k0 := hcell 0 _ (by omega) rfl
            have k1 := hcell 1 _ (by omega) rfl
            have k2 := hcell 2 _ (by omega) rfl
            have k3 := hcell 3 _ (by omega) rfl
            rw [← Nat.add_assoc] at k0 k1 k2 k3
            rw [Nat.add_zero] at k0
            clear hcell hc hx hjl
            cases gone with
            | true =>
              go_upto_region 24 with (fail)
              obtain ⟨wa, hwa⟩ : ∃ wa, wa = wr.alloc (.cells #[.string (bs uid), .int .i64 ver, .bool true, .string (bs text)] 41) := ⟨_, rfl⟩
              have HBa : Hd (Blk wa b 89 #[.pointer (some ⟨mb2, 0, none⟩), .int .i64 token, .bool more]) := hd (by rw [hwa]; exact HB3.o.alloc _)
              have HOa : Hd (OmEntItem wa S3 mb2 (foldIts base (items.take j))) := hd (by rw [hwa]; exact HO3.o.below ((Below.refl _ wr).alloc (Nat.le_refl _) _))
              have HPa : Hd (Blk wa w.heap.size 35 #[.int .i64 8, .int .i64 0, .int .i64 tok, .int .i64 version, .string (bs card), .int .i64 index, .bool mr, .slice (some ⟨g, o, none⟩) k c]) := hd (by rw [hwa]; exact HP3.o.alloc _)
              have HCa : Hd (Chg S w wa) := hd (by rw [hwa]; exact HC3.o.alloc _)
              have hbx : Blk wa wr.heap.size 41 #[.string (bs uid), .int .i64 ver, .bool true, .string (bs text)] := by rw [hwa]; exact Blk.new wr 41 _
              have hsza : wa.heap.size = wr.heap.size + 1 := by rw [hwa]; simp
              have y0 := HBa.o.at_ 0 rfl
              have x0 := hbx.at_ 0 rfl
              have x1 := hbx.at_ 1 rfl
              have x2 := hbx.at_ 2 rfl
              have x3 := hbx.at_ 3 rfl
              rw [← hwa]
              clear hwa hbx HB3 HO3 HP3 HC3 hb0 hb1 hp7 k0 k1 k2 k3
              go_still_tail 6, (by kernel_rfl)
              go_wp2_with fail
              refine (omdelEntItem_calls wa.drew S3 mb2 _ uid HOa.o.drew HFL.o).mono ?_
              rintro e w1 ⟨rfl, hO1, hC1⟩
              have hne3 : ¬ S3 b := fun h => (HS3.o b h).2.2.1 rfl
              have hnp3 : ¬ S3 w.heap.size := fun h => (HS3.o _ h).2.2.2 rfl
              have HB1 := hd (HBa.o.drew.chg hC1 hne3)
              have HP1 := hd (HPa.o.drew.chg hC1 hnp3)
              have HC1 : Hd (Chg S w w1) := hd (HCa.o.drew.trans hC1 (fun q hq => (HS3.o q hq).1))
              have HO1 : Hd (OmEntItem w1 (fun q => Plus S3 wa.drew.heap.size q ∧ q < w1.heap.size) mb2 (foldIts base (items.take (j + 1)))) := hd (by
                rw [HST.o]
                exact hO1.shrink)
              have hs1 : wa.heap.size ≤ w1.heap.size := hC1.size
              clear hO1 hC1 y0 x0 x1 x2 x3
              go_wp2
              go_roundw
              case rel =>
                refine ⟨j + 1, _, by go_num, by omega, HB1, HO1, hd (fun q hq => ?_), HP1, HC1⟩
                rcases hq with ⟨hq | hq, hq2⟩
                · obtain ⟨h1, h2, h3, h4⟩ := HS3.o q hq
                  exact ⟨h1, hq2, h3, h4⟩
                · have hq' : wa.heap.size ≤ q := hq
                  exact ⟨.inr (by omega), hq2, by omega, by omega⟩
              case measure => simp [intOf]; omega
            | false =>
              go_upto_region 25 with (fail)
              obtain ⟨wa, hwa⟩ : ∃ wa, wa = wr.alloc (.cells #[.string (bs uid), .int .i64 ver, .bool false, .string (bs text)] 41) := ⟨_, rfl⟩
              have HBa : Hd (Blk wa b 89 #[.pointer (some ⟨mb2, 0, none⟩), .int .i64 token, .bool more]) := hd (by rw [hwa]; exact HB3.o.alloc _)
              have HOa : Hd (OmEntItem wa S3 mb2 (foldIts base (items.take j))) := hd (by rw [hwa]; exact HO3.o.below ((Below.refl _ wr).alloc (Nat.le_refl _) _))
              have HPa : Hd (Blk wa w.heap.size 35 #[.int .i64 8, .int .i64 0, .int .i64 tok, .int .i64 version, .string (bs card), .int .i64 index, .bool mr, .slice (some ⟨g, o, none⟩) k c]) := hd (by rw [hwa]; exact HP3.o.alloc _)
              have HCa : Hd (Chg S w wa) := hd (by rw [hwa]; exact HC3.o.alloc _)
              have hbx : Blk wa wr.heap.size 41 #[.string (bs uid), .int .i64 ver, .bool false, .string (bs text)] := by rw [hwa]; exact Blk.new wr 41 _
              have hsza : wa.heap.size = wr.heap.size + 1 := by rw [hwa]; simp
              have y0 := HBa.o.at_ 0 rfl
              have x0 := hbx.at_ 0 rfl
              have x1 := hbx.at_ 1 rfl
              have x2 := hbx.at_ 2 rfl
              have x3 := hbx.at_ 3 rfl
              rw [← hwa]
              clear hwa hbx HB3 HO3 HP3 HC3 hb0 hb1 hp7 k0 k1 k2 k3
              go_still_tail 13, (by kernel_rfl)
              go_wp2_with fail
              refine (omputEntItem_calls wa.drew S3 mb2 _ uid ⟨uid, ver, false, text⟩ HOa.o.drew HFL.o (fun q hq => by have h1 := (HS3.o q hq).2.1; show q < wa.heap.size; omega)).mono ?_
              rintro e w1 ⟨rfl, hO1, hC1⟩
              have hne3 : ¬ S3 b := fun h => (HS3.o b h).2.2.1 rfl
              have hnp3 : ¬ S3 w.heap.size := fun h => (HS3.o _ h).2.2.2 rfl
              have HB1 := hd (HBa.o.drew.chg hC1 hne3)
              have HP1 := hd (HPa.o.drew.chg hC1 hnp3)
              have HC1 : Hd (Chg S w w1) := hd (HCa.o.drew.trans hC1 (fun q hq => (HS3.o q hq).1))
              have HO1 : Hd (OmEntItem w1 (fun q => Plus S3 wa.drew.heap.size q ∧ q < w1.heap.size) mb2 (foldIts base (items.take (j + 1)))) := hd (by
                rw [HST.o]
                exact hO1.shrink)
              have hs1 : wa.heap.size ≤ w1.heap.size := hC1.size
              clear hO1 hC1 y0 x0 x1 x2 x3
              go_wp2
              go_roundw
              case rel =>
                refine ⟨j + 1, _, by go_num, by omega, HB1, HO1, hd (fun q hq => ?_), HP1, HC1⟩
                rcases hq with ⟨hq | hq, hq2⟩
                · obtain ⟨h1, h2, h3, h4⟩ := HS3.o q hq
                  exact ⟨h1, hq2, h3, h4⟩
                · have hq' : wa.heap.size ≤ q := hq
                  exact ⟨.inr (by omega), hq2, by omega, by omega⟩
              case measure => simp [intOf]; omega
          · obtain rfl : j = k := by omega
            have hf1 := HB3.o.frozen 1
            have hf2 := HB3.o.frozen 2
            have hb2 := HB3.o.at_ 2 rfl
            have hp2 := HP3.o.at_ 2 rfl
            have hp6 := HP3.o.at_ 6 rfl
            have hnb : w.heap.size ≠ b := by omega
            have HTK : Hd (items.take j = items) := hd (List.take_of_length_le (by rw [HN.o]; exact Nat.le_refl _))
            go_wp2_with fail
            go_region
            go_wp2
            go_ret
            refine .inr ⟨rfl, HOK.o, ⟨mb2, ((HB3.o.set_ 1 _).set_ 2 _).drew, ?_, .inl hS⟩, ((HC3.o.setCell (.inl hS) _).setCell (.inl hS) _).drew⟩
            have ho := HO3.o
            rw [HTK.o] at ho
            exact (ho.chg (((Chg.refl (One b) wr).setCell (p := ⟨b, 1, none⟩) (.inl rfl) _).setCell (p := ⟨b, 2, none⟩) (.inl rfl) _).drew (fun q hq hb => (HS3.o q hq).2.2.1 hb)).mono (fun q hq => (HS3.o q hq).1)

/-- Fold, whatever comes. -/
theorem fold_calls (w : World) (S : Nat → Prop) (b : Nat) (s : St) (h : Rep w S b s.token s.more s.ml) (hSw : ∀ q, S q → q < w.heap.size) (asked : Int) (r : Rs) (items : List It) (A : Option Addr) (c : Nat)
    (hr : Rds w A items.length 4 (itsEnc items)) (hAS : items ≠ [] → ∀ q, Of A q → ¬ S q) (hl : s.ml.length + items.length ≤ 1000000) (hsz : ∀ x ∈ items, x.uid.length ≤ maxLen) :
    Calls Try.prog 21 #[.pointer (some ⟨b, 0, none⟩), .int .i64 asked, .agg (rsEnc r A items.length c).toArray] w fun e w' =>
      e = .returned (.int .i64 (foldSem s asked r items).1) ∧ Rep w' (Plus S w.heap.size) b (foldSem s asked r items).2.token (foldSem s asked r items).2.more (foldSem s asked r items).2.ml ∧ Chg S w w' := by
  have keep : ∀ w', Below w.heap.size w w' → Rep w' (Plus S w.heap.size) b s.token s.more s.ml ∧ Chg S w w' := fun w' hb => ⟨(h.below hb).mono (fun _ h => .inl h), Chg.of_below _ hb⟩
  by_cases h1 : r.kind ≠ 8 ∨ asked ≠ s.token
  · rw [fold_kind h1]
    exact (fold_no1 w S b s.token s.more s.ml h asked r A items.length c h1).mono fun e w' ⟨he, hb⟩ => ⟨he, keep w' hb⟩
  · have h2 : r.kind = 8 := Decidable.byContradiction fun hn => h1 (.inl hn)
    have h3 : asked = s.token := Decidable.byContradiction fun hn => h1 (.inr hn)
    by_cases h4 : r.err = 8
    · rw [fold_tok h2 h3 h4, h3]
      exact fold_all w S b s.token s.more s.ml h r A items.length c h2 h4
    · by_cases h5 : r.err = 0
      · by_cases h6 : r.token < asked
        · rw [fold_low h2 h3 h5 h6, h3]
          exact (fold_no3 w S b s.token s.more s.ml h r A items.length c h2 h5 (h3 ▸ h6)).mono fun e w' ⟨he, hb⟩ => ⟨he, keep w' hb⟩
        · have hmain := fold_items w S b s.token s.more s.ml h hSw r items A c h2 h5 (h3 ▸ h6) hr hAS hl hsz
          rw [← h3] at hmain
          refine hmain.mono fun e w' hh => ?_
          rcases hh with ⟨he, hbad, hb⟩ | ⟨he, hok, hrep, hchg⟩
          · rw [fold_bad h2 h3 h5 h6 hbad]
            exact ⟨he, keep w' hb⟩
          · rw [fold_ok h2 h3 h5 h6 hok]
            exact ⟨he, hrep, hchg⟩
      · rw [fold_err h2 h3 h4 h5, h3]
        exact (fold_no2 w S b s.token s.more s.ml h r A items.length c h2 h4 h5).mono fun e w' ⟨he, hb⟩ => ⟨he, keep w' hb⟩

end Go.Proofs.Ytbeckfnhgeclnaa
