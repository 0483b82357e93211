/-
  The reference's Has.
-/
import Derived.Test.YtogjokofmfpmgaaGreatDoorGAL
import Derived.Deep.QuietTactic
import Derived.Test.YtogjokofmfpmgaaGreatDoorGAF
import Derived.Test.YtogjokofmfpmgaaGreatDoorGAJ
import Derived.Test.YtogjokofmfpmgaaGreatDoorGAI
import Derived.Lib.QuietBelow
import Derived.Test.YtogjokofmfpmgaaGreatDoorGAP
import Derived.Test.YtogjokofmfpmgaaGreatDoorGAN
set_option linter.unusedVariables false
set_option linter.unusedSimpArgs false
namespace Go.Proofs.YtogjokofmfpmgaaGreatDoor
open Go.RowKit

theorem fld_cases2 (x y : Fld) : x = y ∨ (x.k == y.k) = false ∨ (x.k = y.k ∧ (x.l == y.l) = false) ∨ (x.k = y.k ∧ x.l = y.l ∧ ((bs x.v).toList == (bs y.v).toList) = false) := by
  have e : ∀ l : List UInt8, (bs l).toList = l := fun l => by rw [Lib.toList_data]; rfl
  rw [e, e]
  by_cases h1 : x.k = y.k
  · by_cases h2 : x.l = y.l
    · by_cases h3 : x.v = y.v
      · exact .inl (fld_ext h1 h2 h3)
      · exact .inr (.inr (.inr ⟨h1, h2, by simpa using h3⟩))
    · exact .inr (.inr (.inl ⟨h1, by simpa using h2⟩))
  · exact .inr (.inl (by simpa using h1))

set_option maxRecDepth 100000 in
set_option maxHeartbeats 2000000 in
theorem has_calls (w : World) (A : Option Addr) (n c : Nat) (l : List Fld) (f : Fld) (hn : n = l.length) (hr : Rds w A n 3 (fsE l)) (hs : n ≤ 1000000) :
    Calls Tryz.prog 134 #[.slice A n c, fldV f] w fun e w' => e = .returned (.bool (decide (f ∈ l))) ∧ Below w.heap.size w w' := by
  obtain ⟨v, hv⟩ : ∃ v, decide (f ∈ l) = v := ⟨_, rfl⟩
  rw [hv]
  have HT := hd (show f ∈ l → v = true from fun h => by rw [← hv]; exact decide_eq_true h)
  have HF := hd (show ¬ f ∈ l → v = false from fun h => by rw [← hv]; exact decide_eq_false h)
  have HN := hd hn
  have HR := hd hr
  clear hv hn hr
  have HFF := hd (show f = f from rfl)
  obtain ⟨F, hF⟩ : ∃ F, f = F := ⟨_, rfl⟩
  rw [hF] at HT HF
  have HFE := hd hF
  clear HFF
  obtain ⟨fk, fl, fv⟩ := f
  change Calls _ _ #[_, .agg #[.int .i64 fk, .int .i64 fl, .string (bs fv)]] _ _
  obtain ⟨X, hX⟩ : ∃ X, X = w.alloc (.cells #[.int .i64 fk, .int .i64 fl, .string (bs fv)] 128) := ⟨_, rfl⟩
  have HBX := hd (show Below w.heap.size w X by rw [hX]; exact (Below.refl _ w).alloc (Nat.le_refl _) _)
  have HKX := hd (show Blk X w.heap.size 128 #[.int .i64 fk, .int .i64 fl, .string (bs fv)] by rw [hX]; exact Blk.new _ _ _)
  have HX := hd (show X.heap.size = w.heap.size + 1 by rw [hX]; simp)
  have hx := hd hX
  clear hX hF
  go_enter Tryz.func134, Tryz.ntmps134
  go_wp2_with fail
  rw [← hx.o]
  go_loopw [5, 4] (fun i _ wr => ∃ k : Nat, i = .int .i64 k ∧ k ≤ n ∧ Hd (∀ g ∈ l.take k, g ≠ F) ∧ Hd (Below X.heap.size X wr)) (fun i _ _ => n - (intOf i).toNat)
  case atStart => exact ⟨0, rfl, Nat.zero_le _, hd (fun g hg => by simp at hg), hd (Below.refl _ _)⟩
  case round =>
    obtain ⟨k, rfl, hk, HL, HW⟩ := hrel
    obtain ⟨wi, rfl⟩ : ∃ wi : World, wi = wr := ⟨_, rfl⟩
    have HWW := hd (HBX.o.trans (HW.o.mono (by rw [HX.o]; omega)))
    by_cases hlt : k < n
    · have hlti : decide ((k : Int) < (n : Int)) = true := by simp; omega
      have hkl : k < l.length := by rw [← HN.o]; exact hlt
      obtain ⟨x, hx⟩ : ∃ x, l[k]'hkl = x := ⟨_, rfl⟩
      have HXY := hd hx
      obtain ⟨g, o, hA, _, hc⟩ := (HR.o.below HWW.o).at_ (by omega)
      subst hA
      have hcx : ∀ t u, t < 3 → (fEnc x)[t]? = some u → wi.cell? ⟨g, o + k * 3 + t, none⟩ = some u := fun t u ht hv => by
        rw [Nat.add_assoc]; exact hc _ _ ((fsE_at l k hkl t ht).trans (by rw [hx]; exact hv))
      have x0 := hcx 0 _ (by omega) rfl
      have x1 := hcx 1 _ (by omega) rfl
      have x2 := hcx 2 _ (by omega) rfl
      simp only [Nat.add_zero] at x0
      have k1 := HKX.o.below HW.o (by rw [HX.o]; omega)
      have y0 := k1.at_ 0 rfl
      have y1 := k1.at_ 1 rfl
      have y2 := k1.at_ 2 rfl
      clear hc hcx hx k1
      have hcase := fld_cases2 x ⟨fk, fl, fv⟩
      by_cases hxy : x = ⟨fk, fl, fv⟩
      · have HV := hd (HT.o (by rw [← HFE.o, ← hxy, ← HXY.o]; exact List.getElem_mem _))
        clear hcase HXY
        subst hxy
        go_wp2_with fail
        go_quiet (fail)
        go_wp2
        go_ret
        exact ⟨retBB HV.o.symm, bdrewN HWW.o _⟩
      · have HNX := hd (show ∀ g ∈ l.take (k + 1), g ≠ F from fun g hg => by
          rw [List.take_succ_eq_append_getElem hkl] at hg
          rcases List.mem_append.1 hg with hg | hg
          · exact HL.o g hg
          · rw [List.mem_singleton.1 hg, HXY.o, ← HFE.o]; exact hxy)
        have HNE := hd hxy
        clear hxy HXY
        obtain ⟨xk, xl, xv⟩ := x
        simp only at hcase
        rcases hcase with he | he | ⟨he1, he2⟩ | ⟨he1, he2, he3⟩
        · exact absurd he HNE.o
        · clear HNE
          go_wp2_with fail
          go_quiet (fail)
          go_wp2
          go_roundw
          case rel => exact ⟨k + 1, by go_num, by omega, HNX, hd (bdrewN HW.o _)⟩
          case measure => simp [intOf]; omega
        · clear HNE
          subst he1
          go_wp2_with fail
          go_quiet (fail)
          go_wp2
          go_roundw
          case rel => exact ⟨k + 1, by go_num, by omega, HNX, hd (bdrewN HW.o _)⟩
          case measure => simp [intOf]; omega
        · clear HNE
          subst he1 he2
          go_wp2_with fail
          go_quiet (fail)
          go_wp2
          go_roundw
          case rel => exact ⟨k + 1, by go_num, by omega, HNX, hd (bdrewN HW.o _)⟩
          case measure => simp [intOf]; omega
    · have hlti : decide ((k : Int) < (n : Int)) = false := by simp; omega
      have HV := hd (HF.o (fun h => HL.o F (by rw [List.take_of_length_le (by rw [← HN.o]; omega)]; exact h) rfl))
      go_wp2
      go_ret
      exact ⟨retBB HV.o.symm, HWW.o⟩

end Go.Proofs.YtogjokofmfpmgaaGreatDoor
namespace Go.Proofs.YtogjokofmfpmgaaGreatDoor
open Go.RowKit Go.Lib

set_option maxHeartbeats 1000000 in
theorem rless_calls (f g : Fld) (w : World) : Calls Tryz.prog 135 #[fldV f, fldV g] w fun e w' => e = .returned (.bool (lessF f g)) ∧ Below w.heap.size w w' := by
  obtain ⟨v, hv⟩ : ∃ v, lessF f g = v := ⟨_, rfl⟩
  rw [hv]
  have HV : Hd (decide (LessP f g) = v) := hd hv
  have hs := bytesLess_dec f.v g.v
  clear hv
  obtain ⟨fk, fl, fv⟩ := f
  obtain ⟨gk, gl, gv⟩ := g
  change Calls _ _ #[.agg #[.int .i64 fk, .int .i64 fl, .string (bs fv)], .agg #[.int .i64 gk, .int .i64 gl, .string (bs gv)]] _ _
  by_cases h1 : fk = gk
  · by_cases h2 : fl = gl
    · subst h1 h2
      have HX := hd (show decide (compareBytes fv gv < 0) = v by
        rw [← HV.o]; congr 1; simp [LessP])
      go_enter Tryz.func135, Tryz.ntmps135
      go_wp2
      go_ret
      exact ⟨retBB (by rw [HX.o]), twoB _ _ _⟩
    · subst h1
      have n2 : (fl != gl) = true := by simpa using h2
      have HX := hd (show decide (fl < gl) = v by
        rw [← HV.o]; congr 1; simp [LessP, h2])
      clear h2
      go_enter Tryz.func135, Tryz.ntmps135
      go_wp2
      go_ret
      exact ⟨retBB (by rw [HX.o]), twoB _ _ _⟩
  · have n1 : (fk != gk) = true := by simpa using h1
    have HX := hd (show decide (fk < gk) = v by
      rw [← HV.o]; congr 1; simp [LessP, h1])
    clear h1
    go_enter Tryz.func135, Tryz.ntmps135
    go_wp2
    go_ret
    exact ⟨retBB (by rw [HX.o]), twoB _ _ _⟩

end Go.Proofs.YtogjokofmfpmgaaGreatDoor
namespace Go.Proofs.YtogjokofmfpmgaaGreatDoor
open Go.RowKit Go.Sort

theorem fInfoR : (Tryz.prog.info? 128).map (fun i => (i.zero, i.size, i.bytes)) = some (some (.agg #[.int .i64 0, .int .i64 0, .string ⟨#[]⟩]), 3, 32) := by kernel_rfl
/-- So far all are ahead of it. -/
def Ahead (o : List Fld) (x : Fld) (k : Nat) : Prop := ∀ i (h : i < o.length), i < k → LessP o[i] x
theorem ahead_0 (o : List Fld) (x : Fld) : Ahead o x 0 := fun _ _ h => absurd h (Nat.not_lt_zero _)
theorem ahead_next {o : List Fld} {x : Fld} {k : Nat} (h : Ahead o x k) (hk : k < o.length) (hl : LessP o[k] x) : Ahead o x (k + 1) := fun i hi hik => by
  by_cases e : i = k
  · subst e; exact hl
  · exact h i hi (by omega)
theorem putF_at : ∀ (o : List Fld) (x : Fld) (k : Nat), Ahead o x k → k ≤ o.length → (∀ h : k < o.length, ¬ LessP o[k] x) → putF x o = o.take k ++ [x] ++ o.drop k
  | [], x, k, _, hk, _ => by
    have : k = 0 := by simpa using hk
    subst this; rfl
  | y :: t, x, 0, _, _, hn => by
    have := hn (by simp)
    simp only [List.getElem_cons_zero] at this
    unfold putF
    rw [if_neg this]; rfl
  | y :: t, x, k + 1, h, hk, hn => by
    have h0 : LessP y x := h 0 (by simp) (by omega)
    unfold putF
    rw [if_pos h0, putF_at t x k (fun i hi hik => h (i + 1) (by simpa using hi) (by omega)) (by simpa using hk) (fun hk' => hn (by simpa using hk'))]
    rfl
theorem rise_skip {l : List Fld} {k : Nat} (h : k < l.length) (hm : l[k] ∈ riseF (l.take k)) : riseF (l.take (k + 1)) = riseF (l.take k) := by
  rw [rise_take l k h, insF, if_pos hm]
theorem rise_put {l : List Fld} {k q : Nat} (h : k < l.length) (hm : l[k] ∉ riseF (l.take k)) (ha : Ahead (riseF (l.take k)) l[k] q) (hq : q ≤ (riseF (l.take k)).length) (hn : ∀ h' : q < (riseF (l.take k)).length, ¬ LessP (riseF (l.take k))[q] l[k]) :
    riseF (l.take (k + 1)) = (riseF (l.take k)).take q ++ [l[k]] ++ (riseF (l.take k)).drop q := by
  rw [rise_take l k h, insF, if_neg hm, putF_at _ _ q ha hq hn]
theorem fsE_one' (l : List Fld) : ∀ u ∈ fsE l, u.oneCell' = true := by
  intro u hu
  obtain ⟨f, _, h⟩ := List.mem_flatMap.1 hu
  exact fEnc_one f u h
theorem rds_drop' {w : World} {g o n : Nat} {l : List Fld} (h : Rds w (some ⟨g, o, none⟩) n 3 (fsE l)) (hn : n = l.length) (k : Nat) (hk : k ≤ n) : Rds w (some ⟨g, o + k * 3, none⟩) (n - k) 3 (fsE (l.drop k)) := by
  refine ⟨?_, fun h0 => ?_⟩
  · rw [show (fsE (l.drop k)).length = (l.drop k).length * 3 from flat_length fEnc 3 fEnc_len _, List.length_drop, hn]
  · obtain ⟨g', o', hA, hg, hc⟩ := h.at_ (by omega)
    injection hA with hA
    injection hA with h1 h2
    subst h1 h2
    refine ⟨g, o + k * 3, rfl, hg, fun j u hj => ?_⟩
    rw [Nat.add_assoc]
    refine hc _ _ ?_
    rw [← hj, ← show (fsE l).drop (k * 3) = fsE (l.drop k) from flat_drop fEnc 3 fEnc_len l k, List.getElem?_drop]
theorem rds_take' {w : World} {A : Option Addr} {n : Nat} {l : List Fld} (h : Rds w A n 3 (fsE l)) (hn : n = l.length) (k : Nat) (hk : k ≤ n) : Rds w A k 3 (fsE (l.take k)) := by
  refine ⟨?_, fun h0 => ?_⟩
  · rw [show (fsE (l.take k)).length = (l.take k).length * 3 from flat_length fEnc 3 fEnc_len _, List.length_take, ← hn, Nat.min_eq_left hk]
  · obtain ⟨g, o, hA, hg, hc⟩ := h.at_ (by omega)
    refine ⟨g, o, hA, hg, fun j u hj => hc _ _ ?_⟩
    rw [← show (fsE l).take (k * 3) = fsE (l.take k) from flat_take fEnc 3 fEnc_len l k, List.getElem?_take] at hj
    split at hj
    · exact hj
    · cases hj
theorem Plus_from' {b x : Nat} (h : b ≤ x) : ∀ q, Plus (From b) x q → From b q := fun q hq => hq.elim id (fun hq => Nat.le_trans h hq)
/-- A slice from k on, where there may be no block. -/
theorem rds_dropO {w : World} {A : Option Addr} {n k : Nat} {l : List Fld} (h : Rds w A n 3 (fsE l)) (hn : n = l.length) (hk : k ≤ n) {B : Option Addr} (hB : ∀ g o, A = some ⟨g, o, none⟩ → k < n → B = some ⟨g, o + k * 3, none⟩) : Rds w B (n - k) 3 (fsE (l.drop k)) := by
  by_cases hlt : k < n
  · obtain ⟨g, o, hA, _, _⟩ := h.at_ (by omega)
    subst hA
    rw [hB g o rfl hlt]
    exact rds_drop' h hn k hk
  · refine ⟨?_, fun h0 => by omega⟩
    rw [show (fsE (l.drop k)).length = (l.drop k).length * 3 from flat_length fEnc 3 fEnc_len _, List.length_drop, hn]

set_option maxRecDepth 100000 in
set_option maxHeartbeats 8000000 in
theorem rise_calls (w : World) (A : Option Addr) (n c : Nat) (l : List Fld) (hn : n = l.length) (hr : Rds w A n 3 (fsE l)) (hs : n ≤ 1000) :
    Calls Tryz.prog 119 #[.slice A n c] w fun e w' => (∃ B m d, e = .returned (.slice B m d) ∧ m = (riseF l).length ∧ Row w' (From w.heap.size) 128 3 B m d (fsE (riseF l))) ∧ Below w.heap.size w w' := by
  obtain ⟨i0, hi, hz0, hz1, hz2⟩ := info_parts fInfoR
  have HN := hd hn
  have HR := hd hr
  clear hn hr
  go_enter Tryz.func119, Tryz.ntmps119
  go_wp2_with fail
  go_loopw [4, 5, 6, 3] (fun i _ _ out wr => ∃ (k : Nat) (B : Option Addr) (m d : Nat), i = .int .i64 k ∧ k ≤ n ∧ out = .slice B m d ∧ m ≤ k ∧ Hd (m = 0 → B = none ∧ d = 0) ∧ Hd (m = (riseF (l.take k)).length) ∧ Hd (Row wr (From w.heap.size) 128 3 B m d (fsE (riseF (l.take k)))) ∧ Hd (Below w.heap.size w wr)) (fun i _ _ _ _ => n - (intOf i).toNat)
  case atStart => exact ⟨0, none, 0, 0, rfl, Nat.zero_le _, rfl, Nat.le_refl _, hd (fun _ => ⟨rfl, rfl⟩), hd rfl, hd (Row.nil _ _ _ _), hd (Below.refl _ _)⟩
  case round =>
    obtain ⟨k, B, m, d, rfl, hk, rfl, hmk, HNIL, HM, HO, HW⟩ := hrel
    obtain ⟨wo, rfl⟩ : ∃ wo : World, wo = wr := ⟨_, rfl⟩
    by_cases hlt : k < n
    · have hlti : decide ((k : Int) < (n : Int)) = true := by simp; omega
      have hkl : k < l.length := by rw [← HN.o]; exact hlt
      obtain ⟨x, hx⟩ : ∃ x, l[k]'hkl = x := ⟨_, rfl⟩
      have HXX := hd hx
      have HCX := hd (fun W (h : Below w.heap.size w W) => (show ∃ g o, A = some ⟨g, o, none⟩ ∧ ∀ t u, t < 3 → (fEnc x)[t]? = some u → W.cell? ⟨g, o + k * 3 + t, none⟩ = some u by
        obtain ⟨g, o, hA, _, hc⟩ := (HR.o.below h).at_ (by omega)
        exact ⟨g, o, hA, fun t u ht hv => by rw [Nat.add_assoc]; exact hc _ _ ((fsE_at l k hkl t ht).trans (by rw [hx]; exact hv))⟩))
      obtain ⟨g, o, hA, hcx⟩ := HCX.o wo HW.o
      subst hA
      have x0 := hcx 0 _ (by omega) rfl
      have x1 := hcx 1 _ (by omega) rfl
      have x2 := hcx 2 _ (by omega) rfl
      simp only [Nat.add_zero] at x0
      have C1 := has_calls wo B m d (riseF (l.take k)) x HM.o HO.o.rds (by omega)
      have HSK := hd (fun (h : x ∈ riseF (l.take k)) => rise_skip hkl (by rw [hx]; exact h))
      have HPT := hd (fun (h : x ∉ riseF (l.take k)) q ha hq hnn => by have := rise_put (q := q) hkl (by rw [hx]; exact h) (by rw [hx]; exact ha) hq (by rw [hx]; exact hnn); rwa [hx] at this : _ → ∀ q, Ahead (riseF (l.take k)) x q → q ≤ (riseF (l.take k)).length → (∀ h' : q < (riseF (l.take k)).length, ¬ LessP (riseF (l.take k))[q] x) → riseF (l.take (k + 1)) = (riseF (l.take k)).take q ++ [x] ++ (riseF (l.take k)).drop q)
      obtain ⟨O, hO⟩ : ∃ O, riseF (l.take k) = O := ⟨_, rfl⟩
      rw [hO] at HM HO C1 HSK HPT
      clear hcx hO hx
      by_cases hin : x ∈ O
      · rw [decide_eq_true hin] at C1
        have HNX := hd (HSK.o hin)
        obtain ⟨xk, xl, xv⟩ := x
        simp only [fldV] at C1
        have K1 := hd C1
        clear hin C1 HSK HPT
        go_wp2_with fail
        refine K1.o.mono ?_
        rintro e w1 ⟨rfl, hb1⟩
        have HO1 := hd (HO.o.below hb1)
        have HW1 := hd (HW.o.trans (hb1.mono HW.o.size))
        clear hb1 x0 x1 x2
        go_wp2
        go_roundw
        case rel => exact ⟨k + 1, B, m, d, by go_num, by omega, rfl, by omega, HNIL, hd (by rw [HNX.o]; exact HM.o), hd (by rw [HNX.o]; exact HO1.o), HW1⟩
        case measure => simp [intOf]; omega
      · rw [decide_eq_false hin] at C1
        have HPU := hd (HPT.o hin)
        obtain ⟨X, hX⟩ : ∃ X, x = X := ⟨_, rfl⟩
        rw [hX] at HPU
        have HXV := hd hX
        have HCX2 := hd (fun W (h : Below w.heap.size w W) => (show ∀ t u, t < 3 → (fEnc x)[t]? = some u → W.cell? ⟨g, o + k * 3 + t, none⟩ = some u by
          obtain ⟨g', o', hA, hcx⟩ := HCX.o W h
          injection hA with hA
          injection hA with e1 e2
          subst e1 e2
          exact hcx))
        obtain ⟨xk, xl, xv⟩ := x
        simp only [fldV] at C1
        have K1 := hd C1
        clear hin C1 HSK HPT hX
        go_wp2_with fail
        refine K1.o.mono ?_
        rintro e w1 ⟨rfl, hb1⟩
        have HO1 := hd (HO.o.below hb1)
        have HW1 := hd (HW.o.trans (hb1.mono HW.o.size))
        clear hb1 x0 x1 x2
        go_wp2_with fail
        go_loopw [5] (fun i wr => ∃ q : Nat, i = .int .i64 q ∧ q ≤ m ∧ Hd (Ahead O X q) ∧ Hd (Row wr (From w.heap.size) 128 3 B m d (fsE O)) ∧ Hd (Below w.heap.size w wr)) (fun i _ => m - (intOf i).toNat)
        case atStart => exact ⟨0, rfl, Nat.zero_le _, hd (ahead_0 _ _), HO1, HW1⟩
        case round =>
          obtain ⟨q, rfl, hq, HAH, HO2, HW2⟩ := hrel
          obtain ⟨wi, rfl⟩ : ∃ wi : World, wi = wr := ⟨_, rfl⟩
          by_cases hm0 : m = 0
          · obtain ⟨rfl, rfl⟩ := HNIL.o hm0
            subst hm0
            have hq0 : q = 0 := by omega
            subst hq0
            go_wp2_with fail
            go_quiet (fail)
            obtain ⟨wx, hwx⟩ : ∃ wx, wx = wi.drewN nq := ⟨_, rfl⟩
            have HOX := hd (show Row wx (From w.heap.size) 128 3 none 0 0 (fsE O) by rw [hwx]; exact HO2.o.drewN _)
            have HWX := hd (show Below w.heap.size w wx by rw [hwx]; exact bdrewN HW2.o _)
            rw [← hwx]
            clear hwx
            have HEQ := hd (HPU.o 0 HAH.o (by rw [← HM.o]; omega) (fun h => by rw [← HM.o] at h; omega))
            have HT1 := hd (rds_take' HOX.o.rds HM.o 0 (by omega))
            have HDD := hd (fun W (h : Below wx.heap.size wx W) => (rds_dropO (HOX.o.rds.below h) HM.o (k := 0) (by omega) (B := none) (by intro g2 o2 hA2 hlt2; cases hA2) : Rds W none (0 - 0) 3 (fsE (O.drop 0))))
            have hqq : (0 : Int) ≤ (0 : Int) := by omega
            go_wp2_with (first
              | (at_builtin; refine wpList_append_rowG rfl _ _ 118 rfl (From wx.heap.size) 128 i0 (.agg #[.int .i64 0, .int .i64 0, .string ⟨#[]⟩]) 3 32 Tryz.underlying118 hi hz0 hz1 hz2 rfl none 0 0 [] rfl (Row.nil _ _ _ _) none 0 0 (fsE (O.take 0)) rfl HT1.o (fsE_one' _) (by unfold maxLen; omega) (by omega) ?_; intro A2 c2 w3 hown3 hchg3; have HO3 := hd (show Row w3 (From wx.heap.size) 128 3 A2 0 c2 (fsE (O.take 0)) by simpa using hown3.mono (Plus_from' (Nat.le_refl _))); have BX3 := hd (hchg3.below (fun _ h => h) (Nat.le_refl _)); have HW3 := hd (HWX.o.trans (BX3.o.mono HWX.o.size)); have hsw3 := BX3.o.size; have c0 := HCX2.o w3 HW3.o 0 _ (by omega) rfl; have c1 := HCX2.o w3 HW3.o 1 _ (by omega) rfl; have c2' := HCX2.o w3 HW3.o 2 _ (by omega) rfl; rw [Nat.add_zero] at c0; clear hown3 hchg3; simp only [Nat.zero_add])
              | (at_builtin; refine wpList_append_row rfl _ _ 118 rfl (From wx.heap.size) 128 i0 (.agg #[.int .i64 0, .int .i64 0, .string ⟨#[]⟩]) 3 32 Tryz.underlying118 hi hz0 hz1 hz2 rfl A2 0 c2 (fsE (O.take 0)) rfl (HO3.o.alloc _) ⟨_, 0, none⟩ 1 1 [.int .i64 xk, .int .i64 xl, .string (bs xv)] rfl rfl (cells_at (Blk.new_ _ _ (by simp) _ _) rfl) (by simp [Value.oneCell']) (by omega) (by unfold maxLen; omega) (by omega) ?_; intro A3 c3 w4 hown4 hchg4; have HO4 := hd (show Row w4 (From wx.heap.size) 128 3 A3 (0 + 1) c3 (fsE (O.take 0 ++ [⟨xk, xl, xv⟩])) by rw [fsE_snoc]; exact hown4.mono (Plus_from' (by simp; omega))); have BX4 := hd (BX3.o.trans (((Chg.refl (From wx.heap.size) w3).alloc _).trans hchg4 (fun q hq => .inl hq) |>.below (fun _ h => h) hsw3)); have hsw4 := BX4.o.size; have HD4 := hd (HDD.o w4 BX4.o); clear hown4 hchg4 c0 c1 c2')
              | (at_builtin; refine wpList_append_rowG rfl _ _ 118 rfl (From wx.heap.size) 128 i0 (.agg #[.int .i64 0, .int .i64 0, .string ⟨#[]⟩]) 3 32 Tryz.underlying118 hi hz0 hz1 hz2 rfl A3 (0 + 1) c3 (fsE (O.take 0 ++ [⟨xk, xl, xv⟩])) rfl HO4.o none 0 0 (fsE (O.drop 0)) rfl HD4.o (fsE_one' _) (by unfold maxLen; omega) (by omega) ?_; intro A4 c4 w5 hown5 hchg5; have HO5 := hd (show Row w5 (From wx.heap.size) 128 3 A4 (0 + 1 + 0) c4 (fsE (O.take 0 ++ [⟨xk, xl, xv⟩] ++ O.drop 0)) by rw [fsE_app]; exact hown5.mono (Plus_from' hsw4)); have BX5 := hd (BX4.o.trans (hchg5.below (fun _ h => h) hsw4)); clear hown5 hchg5))
            go_roundw
            case rel =>
              refine ⟨k + 1, A4, 0 + 1 + 0, c4, by go_num, by omega, rfl, by omega, hd (fun h => by omega), hd ?_, hd ?_, hd ?_⟩
              · rw [HEQ.o, ← HXV.o, List.length_append, List.length_append, List.length_take, List.length_drop, ← HM.o, Nat.min_eq_left (by omega)]; first | rfl | simp
              · rw [HEQ.o, ← HXV.o]
                exact HO5.o.mono (fun q hq => Nat.le_trans HWX.o.size hq)
              · exact HWX.o.trans (BX5.o.mono HWX.o.size)
            case measure => simp [intOf]; omega
          · obtain ⟨gb, hB, _, _, hmd, _, hcl, _⟩ := HO2.o.at_ (by omega)
            subst hB
            by_cases hqm : q < m
            · have hqmi : decide ((q : Int) < (m : Int)) = true := by simp; omega
              have hqO : q < O.length := by rw [← HM.o]; exact hqm
              obtain ⟨y, hy⟩ : ∃ y, O[q]'hqO = y := ⟨_, rfl⟩
              have hcy : ∀ t u, t < 3 → (fEnc y)[t]? = some u → wi.cell? ⟨gb, q * 3 + t, none⟩ = some u := fun t u ht hv => hcl _ _ ((fsE_at O q hqO t ht).trans (by rw [hy]; exact hv))
              have y0 := hcy 0 _ (by omega) rfl
              have y1 := hcy 1 _ (by omega) rfl
              have y2 := hcy 2 _ (by omega) rfl
              have hcx := HCX2.o wi HW2.o
              have x0 := hcx 0 _ (by omega) rfl
              have x1 := hcx 1 _ (by omega) rfl
              have x2 := hcx 2 _ (by omega) rfl
              rw [Nat.add_zero] at x0 y0
              have C2 := fun W => rless_calls y ⟨xk, xl, xv⟩ W
              have HLE := hd (show lessF y ⟨xk, xl, xv⟩ = decide (LessP (O[q]'hqO) X) by rw [hy, ← HXV.o]; rfl)
              obtain ⟨lb, hlb⟩ : ∃ lb, lessF y ⟨xk, xl, xv⟩ = lb := ⟨_, rfl⟩
              rw [hlb] at C2 HLE
              obtain ⟨yk, yl, yv⟩ := y
              simp only [fldV] at C2
              have r1 := cell_regrown x0
              have r2 := cell_regrown x1
              have r3 := cell_regrown x2
              have r4 := cell_regrown y0
              have r5 := cell_regrown y1
              have r6 := cell_regrown y2
              have D1 := hd (fun dd os => Calls.regrown_of (C2 (grow (redrawn wi dd) os)))
              clear hcl hcy hy hcx hlb C2 x0 x1 x2 y0 y1 y2
              go_wp2_with fail
              refine wp_region_quiet_below (by kernel_rfl) (by kernel_rfl) ?_
              iterate 14 (go_big_quiet_step (exact D1.o _ _))
              repeat (go_big_quiet_step (exact D1.o _ _))
              refine wpQuiet_nil ?_
              intro _ hw'
              obtain ⟨⟨dq, osq⟩, hw''⟩ := hw'
              subst hw''
              have hbx := below_regrown wi dq osq
              generalize grow (redrawn wi dq) osq = wx at hbx ⊢
              have HOX := hd (HO2.o.below hbx)
              have HWX := hd (HW2.o.trans (hbx.mono HW2.o.size))
              clear r1 r2 r3 r4 r5 r6 D1 hbx
              cases lb with
              | true =>
                have HA2 := hd (ahead_next HAH.o hqO (of_decide_eq_true HLE.o.symm))
                go_wp2
                go_roundw
                case rel => exact ⟨q + 1, by go_num, by omega, HA2, HOX, HWX⟩
                case measure => simp [intOf]; omega
              | false =>
                have HEQ := hd (HPU.o q HAH.o (by rw [← HM.o]; omega) (fun _ => of_decide_eq_false HLE.o.symm))
                have HT1 := hd (rds_take' HOX.o.rds HM.o q (by omega))
                have HDD := hd (fun W (h : Below wx.heap.size wx W) => (rds_dropO (HOX.o.rds.below h) HM.o (k := q) (by omega) (B := (some ⟨gb, q * 3, none⟩)) (by intro g2 o2 hA2 hlt2; injection hA2 with hA2; injection hA2 with e1 e2; subst e1 e2; rw [Nat.zero_add]) : Rds W (some ⟨gb, q * 3, none⟩) (m - q) 3 (fsE (O.drop q))))
                have hqq : (q : Int) ≤ (m : Int) := by omega
                go_wp2_with (first
                  | (at_builtin; refine wpList_append_rowG rfl _ _ 118 rfl (From wx.heap.size) 128 i0 (.agg #[.int .i64 0, .int .i64 0, .string ⟨#[]⟩]) 3 32 Tryz.underlying118 hi hz0 hz1 hz2 rfl none 0 0 [] rfl (Row.nil _ _ _ _) (some ⟨gb, 0, none⟩) q d (fsE (O.take q)) rfl HT1.o (fsE_one' _) (by unfold maxLen; omega) (by omega) ?_; intro A2 c2 w3 hown3 hchg3; have HO3 := hd (show Row w3 (From wx.heap.size) 128 3 A2 q c2 (fsE (O.take q)) by simpa using hown3.mono (Plus_from' (Nat.le_refl _))); have BX3 := hd (hchg3.below (fun _ h => h) (Nat.le_refl _)); have HW3 := hd (HWX.o.trans (BX3.o.mono HWX.o.size)); have hsw3 := BX3.o.size; have c0 := HCX2.o w3 HW3.o 0 _ (by omega) rfl; have c1 := HCX2.o w3 HW3.o 1 _ (by omega) rfl; have c2' := HCX2.o w3 HW3.o 2 _ (by omega) rfl; rw [Nat.add_zero] at c0; clear hown3 hchg3; simp only [Nat.zero_add])
                  | (at_builtin; refine wpList_append_row rfl _ _ 118 rfl (From wx.heap.size) 128 i0 (.agg #[.int .i64 0, .int .i64 0, .string ⟨#[]⟩]) 3 32 Tryz.underlying118 hi hz0 hz1 hz2 rfl A2 q c2 (fsE (O.take q)) rfl (HO3.o.alloc _) ⟨_, 0, none⟩ 1 1 [.int .i64 xk, .int .i64 xl, .string (bs xv)] rfl rfl (cells_at (Blk.new_ _ _ (by simp) _ _) rfl) (by simp [Value.oneCell']) (by omega) (by unfold maxLen; omega) (by omega) ?_; intro A3 c3 w4 hown4 hchg4; have HO4 := hd (show Row w4 (From wx.heap.size) 128 3 A3 (q + 1) c3 (fsE (O.take q ++ [⟨xk, xl, xv⟩])) by rw [fsE_snoc]; exact hown4.mono (Plus_from' (by simp; omega))); have BX4 := hd (BX3.o.trans (((Chg.refl (From wx.heap.size) w3).alloc _).trans hchg4 (fun q hq => .inl hq) |>.below (fun _ h => h) hsw3)); have hsw4 := BX4.o.size; have HD4 := hd (HDD.o w4 BX4.o); clear hown4 hchg4 c0 c1 c2')
                  | (at_builtin; refine wpList_append_rowG rfl _ _ 118 rfl (From wx.heap.size) 128 i0 (.agg #[.int .i64 0, .int .i64 0, .string ⟨#[]⟩]) 3 32 Tryz.underlying118 hi hz0 hz1 hz2 rfl A3 (q + 1) c3 (fsE (O.take q ++ [⟨xk, xl, xv⟩])) rfl HO4.o (some ⟨gb, q * 3, none⟩) (m - q) (d - q) (fsE (O.drop q)) rfl HD4.o (fsE_one' _) (by unfold maxLen; omega) (by omega) ?_; intro A4 c4 w5 hown5 hchg5; have HO5 := hd (show Row w5 (From wx.heap.size) 128 3 A4 (q + 1 + (m - q)) c4 (fsE (O.take q ++ [⟨xk, xl, xv⟩] ++ O.drop q)) by rw [fsE_app]; exact hown5.mono (Plus_from' hsw4)); have BX5 := hd (BX4.o.trans (hchg5.below (fun _ h => h) hsw4)); clear hown5 hchg5))
                go_roundw
                case rel =>
                  refine ⟨k + 1, A4, q + 1 + (m - q), c4, by go_num, by omega, rfl, by omega, hd (fun h => by omega), hd ?_, hd ?_, hd ?_⟩
                  · rw [HEQ.o, ← HXV.o, List.length_append, List.length_append, List.length_take, List.length_drop, ← HM.o, Nat.min_eq_left (by omega)]; first | rfl | simp
                  · rw [HEQ.o, ← HXV.o]
                    exact HO5.o.mono (fun q hq => Nat.le_trans HWX.o.size hq)
                  · exact HWX.o.trans (BX5.o.mono HWX.o.size)
                case measure => simp [intOf]; omega
            · have hqmi : decide ((q : Int) < (m : Int)) = false := by simp; omega
              go_wp2_with fail
              go_quiet (fail)
              obtain ⟨wx, hwx⟩ : ∃ wx, wx = wi.drewN nq := ⟨_, rfl⟩
              have HOX := hd (show Row wx (From w.heap.size) 128 3 (some ⟨gb, 0, none⟩) m d (fsE O) by rw [hwx]; exact HO2.o.drewN _)
              have HWX := hd (show Below w.heap.size w wx by rw [hwx]; exact bdrewN HW2.o _)
              rw [← hwx]
              clear hwx hcl
              by_cases hdq : d = q
              · obtain rfl : q = m := by omega
                subst hdq
                have HEQ := hd (HPU.o d HAH.o (by rw [← HM.o]; omega) (fun h => by rw [← HM.o] at h; omega))
                have HT1 := hd (rds_take' HOX.o.rds HM.o d (by omega))
                have HDD := hd (fun W (h : Below wx.heap.size wx W) => (by have hh := rds_dropO (HOX.o.rds.below h) HM.o (k := d) (by omega) (B := (some ⟨gb, 0, none⟩)) (by intro g1 o1 hA1 hlt1; omega); rwa [Nat.sub_self] at hh : Rds W (some ⟨gb, 0, none⟩) 0 3 (fsE (O.drop d))))
                have hqq : (d : Int) ≤ (d : Int) := by omega
                go_wp2_with (first
                  | (at_builtin; refine wpList_append_rowG rfl _ _ 118 rfl (From wx.heap.size) 128 i0 (.agg #[.int .i64 0, .int .i64 0, .string ⟨#[]⟩]) 3 32 Tryz.underlying118 hi hz0 hz1 hz2 rfl none 0 0 [] rfl (Row.nil _ _ _ _) (some ⟨gb, 0, none⟩) d d (fsE (O.take d)) rfl HT1.o (fsE_one' _) (by unfold maxLen; omega) (by omega) ?_; intro A2 c2 w3 hown3 hchg3; have HO3 := hd (show Row w3 (From wx.heap.size) 128 3 A2 d c2 (fsE (O.take d)) by simpa using hown3.mono (Plus_from' (Nat.le_refl _))); have BX3 := hd (hchg3.below (fun _ h => h) (Nat.le_refl _)); have HW3 := hd (HWX.o.trans (BX3.o.mono HWX.o.size)); have hsw3 := BX3.o.size; have c0 := HCX2.o w3 HW3.o 0 _ (by omega) rfl; have c1 := HCX2.o w3 HW3.o 1 _ (by omega) rfl; have c2' := HCX2.o w3 HW3.o 2 _ (by omega) rfl; rw [Nat.add_zero] at c0; clear hown3 hchg3; simp only [Nat.zero_add])
                  | (at_builtin; refine wpList_append_row rfl _ _ 118 rfl (From wx.heap.size) 128 i0 (.agg #[.int .i64 0, .int .i64 0, .string ⟨#[]⟩]) 3 32 Tryz.underlying118 hi hz0 hz1 hz2 rfl A2 d c2 (fsE (O.take d)) rfl (HO3.o.alloc _) ⟨_, 0, none⟩ 1 1 [.int .i64 xk, .int .i64 xl, .string (bs xv)] rfl rfl (cells_at (Blk.new_ _ _ (by simp) _ _) rfl) (by simp [Value.oneCell']) (by omega) (by unfold maxLen; omega) (by omega) ?_; intro A3 c3 w4 hown4 hchg4; have HO4 := hd (show Row w4 (From wx.heap.size) 128 3 A3 (d + 1) c3 (fsE (O.take d ++ [⟨xk, xl, xv⟩])) by rw [fsE_snoc]; exact hown4.mono (Plus_from' (by simp; omega))); have BX4 := hd (BX3.o.trans (((Chg.refl (From wx.heap.size) w3).alloc _).trans hchg4 (fun d hq => .inl hq) |>.below (fun _ h => h) hsw3)); have hsw4 := BX4.o.size; have HD4 := hd (HDD.o w4 BX4.o); clear hown4 hchg4 c0 c1 c2')
                  | (at_builtin; refine wpList_append_rowG rfl _ _ 118 rfl (From wx.heap.size) 128 i0 (.agg #[.int .i64 0, .int .i64 0, .string ⟨#[]⟩]) 3 32 Tryz.underlying118 hi hz0 hz1 hz2 rfl A3 (d + 1) c3 (fsE (O.take d ++ [⟨xk, xl, xv⟩])) rfl HO4.o (some ⟨gb, 0, none⟩) 0 0 (fsE (O.drop d)) rfl HD4.o (fsE_one' _) (by unfold maxLen; omega) (by omega) ?_; intro A4 c4 w5 hown5 hchg5; have HO5 := hd (show Row w5 (From wx.heap.size) 128 3 A4 (d + 1 + 0) c4 (fsE (O.take d ++ [⟨xk, xl, xv⟩] ++ O.drop d)) by rw [fsE_app]; exact hown5.mono (Plus_from' hsw4)); have BX5 := hd (BX4.o.trans (hchg5.below (fun _ h => h) hsw4)); clear hown5 hchg5))
                go_roundw
                case rel =>
                  refine ⟨k + 1, A4, d + 1 + 0, c4, by go_num, by omega, rfl, by omega, hd (fun h => by omega), hd ?_, hd ?_, hd ?_⟩
                  · rw [HEQ.o, ← HXV.o, List.length_append, List.length_append, List.length_take, List.length_drop, ← HM.o, Nat.min_eq_left (by omega)]; first | rfl | simp
                  · rw [HEQ.o, ← HXV.o]
                    exact HO5.o.mono (fun d hq => Nat.le_trans HWX.o.size hq)
                  · exact HWX.o.trans (BX5.o.mono HWX.o.size)
                case measure => simp [intOf]; omega
              · have hdq2 : ¬ q = d := fun h => hdq h.symm
                have HEQ := hd (HPU.o q HAH.o (by rw [← HM.o]; omega) (fun h => by rw [← HM.o] at h; omega))
                have HT1 := hd (rds_take' HOX.o.rds HM.o q (by omega))
                have HDD := hd (fun W (h : Below wx.heap.size wx W) => (rds_dropO (HOX.o.rds.below h) HM.o (k := q) (by omega) (B := (some ⟨gb, q * 3, none⟩)) (by intro g2 o2 hA2 hlt2; injection hA2 with hA2; injection hA2 with e1 e2; subst e1 e2; rw [Nat.zero_add]) : Rds W (some ⟨gb, q * 3, none⟩) (m - q) 3 (fsE (O.drop q))))
                have hqq : (q : Int) ≤ (m : Int) := by omega
                go_wp2_with (first
                  | (at_builtin; refine wpList_append_rowG rfl _ _ 118 rfl (From wx.heap.size) 128 i0 (.agg #[.int .i64 0, .int .i64 0, .string ⟨#[]⟩]) 3 32 Tryz.underlying118 hi hz0 hz1 hz2 rfl none 0 0 [] rfl (Row.nil _ _ _ _) (some ⟨gb, 0, none⟩) q d (fsE (O.take q)) rfl HT1.o (fsE_one' _) (by unfold maxLen; omega) (by omega) ?_; intro A2 c2 w3 hown3 hchg3; have HO3 := hd (show Row w3 (From wx.heap.size) 128 3 A2 q c2 (fsE (O.take q)) by simpa using hown3.mono (Plus_from' (Nat.le_refl _))); have BX3 := hd (hchg3.below (fun _ h => h) (Nat.le_refl _)); have HW3 := hd (HWX.o.trans (BX3.o.mono HWX.o.size)); have hsw3 := BX3.o.size; have c0 := HCX2.o w3 HW3.o 0 _ (by omega) rfl; have c1 := HCX2.o w3 HW3.o 1 _ (by omega) rfl; have c2' := HCX2.o w3 HW3.o 2 _ (by omega) rfl; rw [Nat.add_zero] at c0; clear hown3 hchg3; simp only [Nat.zero_add])
                  | (at_builtin; refine wpList_append_row rfl _ _ 118 rfl (From wx.heap.size) 128 i0 (.agg #[.int .i64 0, .int .i64 0, .string ⟨#[]⟩]) 3 32 Tryz.underlying118 hi hz0 hz1 hz2 rfl A2 q c2 (fsE (O.take q)) rfl (HO3.o.alloc _) ⟨_, 0, none⟩ 1 1 [.int .i64 xk, .int .i64 xl, .string (bs xv)] rfl rfl (cells_at (Blk.new_ _ _ (by simp) _ _) rfl) (by simp [Value.oneCell']) (by omega) (by unfold maxLen; omega) (by omega) ?_; intro A3 c3 w4 hown4 hchg4; have HO4 := hd (show Row w4 (From wx.heap.size) 128 3 A3 (q + 1) c3 (fsE (O.take q ++ [⟨xk, xl, xv⟩])) by rw [fsE_snoc]; exact hown4.mono (Plus_from' (by simp; omega))); have BX4 := hd (BX3.o.trans (((Chg.refl (From wx.heap.size) w3).alloc _).trans hchg4 (fun q hq => .inl hq) |>.below (fun _ h => h) hsw3)); have hsw4 := BX4.o.size; have HD4 := hd (HDD.o w4 BX4.o); clear hown4 hchg4 c0 c1 c2')
                  | (at_builtin; refine wpList_append_rowG rfl _ _ 118 rfl (From wx.heap.size) 128 i0 (.agg #[.int .i64 0, .int .i64 0, .string ⟨#[]⟩]) 3 32 Tryz.underlying118 hi hz0 hz1 hz2 rfl A3 (q + 1) c3 (fsE (O.take q ++ [⟨xk, xl, xv⟩])) rfl HO4.o (some ⟨gb, q * 3, none⟩) (m - q) (d - q) (fsE (O.drop q)) rfl HD4.o (fsE_one' _) (by unfold maxLen; omega) (by omega) ?_; intro A4 c4 w5 hown5 hchg5; have HO5 := hd (show Row w5 (From wx.heap.size) 128 3 A4 (q + 1 + (m - q)) c4 (fsE (O.take q ++ [⟨xk, xl, xv⟩] ++ O.drop q)) by rw [fsE_app]; exact hown5.mono (Plus_from' hsw4)); have BX5 := hd (BX4.o.trans (hchg5.below (fun _ h => h) hsw4)); clear hown5 hchg5))
                go_roundw
                case rel =>
                  refine ⟨k + 1, A4, q + 1 + (m - q), c4, by go_num, by omega, rfl, by omega, hd (fun h => by omega), hd ?_, hd ?_, hd ?_⟩
                  · rw [HEQ.o, ← HXV.o, List.length_append, List.length_append, List.length_take, List.length_drop, ← HM.o, Nat.min_eq_left (by omega)]; first | rfl | simp
                  · rw [HEQ.o, ← HXV.o]
                    exact HO5.o.mono (fun q hq => Nat.le_trans HWX.o.size hq)
                  · exact HWX.o.trans (BX5.o.mono HWX.o.size)
                case measure => simp [intOf]; omega
    · have hlti : decide ((k : Int) < (n : Int)) = false := by simp; omega
      have htk : l.take k = l := List.take_of_length_le (by rw [← HN.o]; omega)
      rw [htk] at HM HO
      go_wp2
      go_ret
      exact ⟨⟨B, m, d, rfl, HM.o, HO.o⟩, HW.o⟩

end Go.Proofs.YtogjokofmfpmgaaGreatDoor
namespace Go.Proofs.YtogjokofmfpmgaaGreatDoor
open Go.RowKit

set_option maxRecDepth 100000 in
set_option maxHeartbeats 8000000 in
theorem rfields_calls (w : World) (A : Option Addr) (n c : Nat) (l : List Fld) (hn : n = l.length) (hr : Rds w A n 3 (fsE l)) (hb : n ≤ 1000) (hm : ∀ f ∈ l, f.v.length ≤ 1000000) :
    Calls Tryz.prog 110 #[.slice A n c] w fun e w' => CanR w l e w' := by
  obtain ⟨i0, hi, hz0, hz1, hz2⟩ := info_parts fInfo
  have HN := hd hn
  have HR := hd hr
  have HM := hd hm
  clear hn hr hm
  go_enter Tryz.func110, Tryz.ntmps110
  go_wp2_with fail
  go_loopw [5, 6, 7, 4, 2, 3] (fun i _ _ out _ _ wr => ∃ (k : Nat) (B : Option Addr) (d : Nat), i = .int .i64 k ∧ k ≤ n ∧ out = .slice B k d ∧ Hd (∀ f ∈ l.take k, fldE f = 0) ∧ Hd (Row wr (From w.heap.size) 128 3 B k d (fsE ((l.take k).map fldC))) ∧ Hd (Below w.heap.size w wr)) (fun i _ _ _ _ _ _ => n - (intOf i).toNat)
  case atStart => exact ⟨0, none, 0, rfl, Nat.zero_le _, rfl, hd (fun f hf => by simp at hf), hd (Row.nil _ _ _ _), hd (Below.refl _ _)⟩
  case round =>
    obtain ⟨k, B, d, rfl, hk, rfl, HE, HO, HW⟩ := hrel
    obtain ⟨wi, rfl⟩ : ∃ wi : World, wi = wr := ⟨_, rfl⟩
    by_cases hlt : k < n
    · have hlti : decide ((k : Int) < (n : Int)) = true := by simp; omega
      have hkl : k < l.length := by rw [← HN.o]; exact hlt
      obtain ⟨f, hf⟩ : ∃ f, l[k]'hkl = f := ⟨_, rfl⟩
      have hfm := HM.o f (by rw [← hf]; exact List.getElem_mem _)
      have HF := hd hf
      have hr2 := HR.o.below HW.o
      obtain ⟨g, o, rfl, hg, hc⟩ := hr2.at_ (by omega)
      have hcf : ∀ t u, t < 3 → (fEnc f)[t]? = some u → wi.cell? ⟨g, o + k * 3 + t, none⟩ = some u := fun t u ht hv => by
        rw [Nat.add_assoc]
        exact hc _ _ ((fsE_at l k hkl t ht).trans (by rw [hf]; exact hv))
      have c0 := hcf 0 _ (by omega) rfl
      have c1 := hcf 1 _ (by omega) rfl
      have c2 := hcf 2 _ (by omega) rfl
      rw [Nat.add_zero] at c0
      clear hcf hc hr2 hf
      have C1 := rcanon_calls f hfm
      obtain ⟨r, hr⟩ : ∃ r, fldC f = r := ⟨_, rfl⟩
      obtain ⟨re, hre⟩ : ∃ re, fldE f = re := ⟨_, rfl⟩
      rw [hr, hre] at C1
      have HRF := hd hr
      have HRE := hd hre
      obtain ⟨fk, fl, fv⟩ := f
      obtain ⟨rk, rl, rv⟩ := r
      simp only [fldV, fldR] at C1
      have K1 := hd C1
      have HBB := HW
      have HRB := HO
      clear C1 hr hre hfm
      by_cases he : re = 0
      · subst he
        go_wp2_with fail
        refine (K1.o _).mono ?_
        rintro e w2 ⟨rfl, hb2⟩
        have HR2 := hd (HRB.o.below hb2)
        have HW2 := hd (HBB.o.trans (hb2.mono HBB.o.size))
        have hsz := HW2.o.size
        clear hb2 c0 c1 c2
        go_wp2_with (at_builtin; go_loud (refine wpList_append_row rfl _ _ 118 rfl (From w.heap.size) 128 i0 (.agg #[.int .i64 0, .int .i64 0, .string ⟨#[]⟩]) 3 32 Tryz.underlying118 hi hz0 hz1 hz2 rfl B k d (fsE ((l.take k).map fldC)) rfl ((HR2.o.alloc _).alloc _) ⟨_, 0, none⟩ 1 1 [.int .i64 rk, .int .i64 rl, .string (bs rv)] rfl rfl (cells_at (Blk.new_ _ _ (by simp) _ _) rfl) (by simp [Value.oneCell']) (by omega) (by unfold maxLen; omega) (by omega) ?_; intro A2 c2 w3 hown3 hchg3))
        go_roundw
        case rel =>
          refine ⟨k + 1, A2, c2, by go_num, by omega, rfl, hd (fun f hf => ?_), hd ?_, hd ?_⟩
          · rw [List.take_succ_eq_append_getElem hkl] at hf
            rcases List.mem_append.1 hf with hf | hf
            · exact HE.o f hf
            · rw [List.mem_singleton.1 hf, HF.o]; exact HRE.o
          · rw [show fsE ((l.take (k + 1)).map fldC) = fsE ((l.take k).map fldC) ++ [.int .i64 rk, .int .i64 rl, .string (bs rv)] by
              rw [List.take_succ_eq_append_getElem hkl, List.map_append, fsE_app, HF.o]
              simp [fsE, HRF.o, fEnc]]
            exact hown3.mono (fun q hq => by
              rcases hq with hq | hq
              · exact hq
              · simp at hq; show w.heap.size ≤ q; omega)
          · exact HW2.o.trans ((((Chg.refl (From w.heap.size) w2).alloc _).alloc _).trans hchg3 (fun q hq => .inl hq) |>.below (fun _ h => h) hsz)
        case measure => simp [intOf]; omega
      · have nE : (re != 0) = true := by simpa using he
        have HCE := hd (card_err (l := l) (by
          rw [errL_take l k hkl HE.o (by rw [HF.o, HRE.o]; exact he), HF.o, HRE.o]; exact he))
        have HCV := hd (errL_take l k hkl HE.o (by rw [HF.o, HRE.o]; exact he))
        rw [HF.o, HRE.o] at HCV
        clear he
        go_wp2_with fail
        refine (K1.o _).mono ?_
        rintro e w2 ⟨rfl, hb2⟩
        have HW2 := hd (HBB.o.trans (hb2.mono HBB.o.size))
        clear hb2 c0 c1 c2
        go_wp2
        go_ret2
        exact CanR.no ⟨HCE.o.1.trans HCV.o, HCE.o.2⟩ (HW2.o.alloc HW2.o.size _)
    · have hlti : decide ((k : Int) < (n : Int)) = false := by simp; omega
      have hkn : k = n := by omega
      subst hkn
      have htk : l.take k = l := List.take_of_length_le (by rw [← HN.o]; exact Nat.le_refl _)
      rw [htk] at HE HO
      have HER := hd (errL_of HE.o)
      have HLM := hd (show k = (l.map fldC).length by rw [List.length_map]; exact HN.o)
      clear htk hlti
      go_wp2_with fail
      refine (rise_calls wi B k d _ HLM.o HO.o.rds (by omega)).mono ?_
      rintro e w3 ⟨⟨B3, m, d3, rfl, hm, hr3⟩, hb3⟩
      have HMM := hd (show m = (cans l).length from hm)
      have hsw := HW.o.size
      have HR3 := hd (show Row w3 (From w.heap.size) 128 3 B3 m d3 (fsE (cans l)) from hr3.mono (fun q hq => Nat.le_trans hsw hq))
      have HW3 := hd (HW.o.trans (hb3.mono hsw))
      have hml : m ≤ k := by
        rw [hm, HLM.o]; exact rise_len _
      clear hm hr3 hb3 hsw
      obtain ⟨L, hL⟩ : ∃ L, cans l = L := ⟨_, rfl⟩
      have HL := hd hL
      have HMAY := hd (cans_may HER.o)
      rw [hL] at HMM HR3 HMAY
      clear hL
      by_cases h12 : 12 < m
      · have HCE := hd (card_many HER.o (by rw [HL.o, ← HMM.o]; exact h12))
        have h12i : (12 : Int) < (m : Int) := by omega
        go_wp2
        go_ret2
        exact CanR.no HCE.o HW3.o
      · have h12i : ¬ (12 : Int) < (m : Int) := by omega
        have HN12 := hd (show ¬ 12 < (cans l).length by rw [HL.o, ← HMM.o]; exact h12)
        obtain ⟨Y, hY⟩ : ∃ Y, Y = w3.alloc (.cells #[.int .i64 0, .int .i64 0, .int .i64 0, .int .i64 0, .int .i64 0, .int .i64 0, .int .i64 0] 144) := ⟨_, rfl⟩
        obtain ⟨b, hb⟩ : ∃ b, b = w3.heap.size := ⟨_, rfl⟩
        have HYB := hd (show Below w.heap.size w Y by rw [hY]; exact HW3.o.alloc HW3.o.size _)
        have HYR := hd (show Row Y (From w.heap.size) 128 3 B3 m d3 (fsE L) by rw [hY]; exact HR3.o.alloc _)
        have HYC := hd (show Cnts Y b (L.take 0) #[.int .i64 0, .int .i64 0, .int .i64 0, .int .i64 0, .int .i64 0, .int .i64 0, .int .i64 0] from ⟨by rw [hY]; exact Blk.new_ _ _ hb _ _, rfl, fun j hj => by
          match j, hj with
          | 0, _ => rfl
          | 1, _ => rfl
          | 2, _ => rfl
          | 3, _ => rfl
          | 4, _ => rfl
          | 5, _ => rfl
          | 6, _ => rfl⟩)
        have HBW := hd (show w.heap.size ≤ b by rw [hb]; exact HW3.o.size)
        have HYb := hd hb
        have HYy := hd hY
        clear hb hY
        go_wp2_with fail
        rw [← HYy.o, ← HYb.o]
        go_loopw [9] (fun i wr => ∃ (q : Nat) (cs : Array Value), i = .int .i64 q ∧ q ≤ m ∧ Hd (Cnts wr b (L.take q) cs) ∧ Hd (Row wr (From w.heap.size) 128 3 B3 m d3 (fsE L)) ∧ Hd (Below w.heap.size w wr)) (fun i _ => m - (intOf i).toNat)
        case atStart => exact ⟨0, _, rfl, Nat.zero_le _, HYC, HYR, HYB⟩
        case round =>
          obtain ⟨q, cs, rfl, hq, HC, HRQ, HWQ⟩ := hrel
          obtain ⟨wq, rfl⟩ : ∃ wq : World, wq = wr := ⟨_, rfl⟩
          by_cases hlt2 : q < m
          · have hlti : decide ((q : Int) < (m : Int)) = true := by simp; omega
            have hql : q < L.length := by rw [← HMM.o]; exact hlt2
            obtain ⟨f, hf⟩ : ∃ f, L[q]'hql = f := ⟨_, rfl⟩
            have hok := may_ok (HMAY.o f (by rw [← hf]; exact List.getElem_mem _))
            have hk6 : 1 ≤ f.k ∧ f.k ≤ 6 := by unfold okKL at hok; omega
            obtain ⟨kn, hkn⟩ : ∃ kn : Nat, f.k = kn := ⟨f.k.toNat, by omega⟩
            have hk7 : kn < 7 := by omega
            have hk7i : (kn : Int) < 7 := by omega
            have hk0i : (0 : Int) ≤ (kn : Int) := by omega
            have HFK := hd (show (L[q]'hql).k = (kn : Int) by rw [hf]; exact hkn)
            obtain ⟨g, hA, _, hg, _, _, hcl, _⟩ := HRQ.o.at_ (by omega)
            have hcf : ∀ t u, t < 3 → (fEnc f)[t]? = some u → wq.cell? ⟨g, q * 3 + t, none⟩ = some u := fun t u ht hv => hcl _ _ ((fsE_at L q hql t ht).trans (by rw [hf]; exact hv))
            have c0 := hcf 0 _ (by omega) rfl
            have c1 := hcf 1 _ (by omega) rfl
            have c2 := hcf 2 _ (by omega) rfl
            rw [Nat.add_zero] at c0
            have hne := HRQ.o.ne_blk HC.o.blk (by decide)
            have HNE := hd hne
            have cb := HC.o.blk.at_ kn (HC.o.at_ kn hk7)
            have fb := HC.o.blk.frozen kn
            have hblt := HC.o.blk.lt
            have hcle := cnt_le (kn : Int) (L.take q)
            rw [List.length_take] at hcle
            have HUP := hd (fun (W : World) (hw : Blk W b 144 cs) => HC.o.up hql HFK.o hk7 hw)
            obtain ⟨z, hz⟩ : ∃ z, cntK (kn : Int) (L.take q) = z := ⟨_, rfl⟩
            rw [hz] at cb hcle HUP
            have HBK := hd (HC.o.blk)
            obtain ⟨fk, fl, fv⟩ := f
            simp only at hkn
            subst hkn
            subst hA
            clear hcf hcl hf hok hk6 hne hz
            go_wp2
            go_roundw
            case rel =>
              refine ⟨q + 1, _, by go_num, by omega, hd (HUP.o _ HBK.o), hd ?_, hd ?_⟩
              · exact HRQ.o.far (fun a ha => HNE.o a ha) _
              · exact HWQ.o.setCell HBW.o _
            case measure => simp [intOf]; omega
          · have hlti : decide ((q : Int) < (m : Int)) = false := by simp; omega
            have hqm : q = m := by omega
            subst hqm
            have htk : L.take q = L := List.take_of_length_le (by rw [← HMM.o]; exact Nat.le_refl _)
            have b1 := HC.o.blk.at_ 1 (HC.o.at_ 1 (by omega))
            have b2 := HC.o.blk.at_ 2 (HC.o.at_ 2 (by omega))
            have b5 := HC.o.blk.at_ 5 (HC.o.at_ 5 (by omega))
            rw [htk] at b1 b2 b5
            have HCP := hd (show CntP L ↔ cntK ((1 : Nat) : Int) L = 1 ∧ cntK ((2 : Nat) : Int) L ≤ 1 ∧ cntK ((5 : Nat) : Int) L ≤ 1 from Iff.rfl)
            obtain ⟨z1, hz1⟩ : ∃ z, cntK ((1 : Nat) : Int) L = z := ⟨_, rfl⟩
            obtain ⟨z2, hz2⟩ : ∃ z, cntK ((2 : Nat) : Int) L = z := ⟨_, rfl⟩
            obtain ⟨z5, hz5⟩ : ∃ z, cntK ((5 : Nat) : Int) L = z := ⟨_, rfl⟩
            rw [hz1] at b1 HCP
            rw [hz2] at b2 HCP
            rw [hz5] at b5 HCP
            clear hz1 hz2 hz5 htk hlti
            by_cases e1 : z1 = 1
            · subst e1
              by_cases e2 : z2 ≤ 1
              · have e2i : ¬ (1 : Int) < (z2 : Int) := by omega
                by_cases e5 : z5 ≤ 1
                · have e5i : ¬ (1 : Int) < (z5 : Int) := by omega
                  have HCPL := hd (HCP.o.2 ⟨rfl, e2, e5⟩)
                  have HTX := hd (rlines_calls wq B3 q d3 L HMM.o HRQ.o.rds (by omega) (fun f hf => by have := may_len (HMAY.o f hf); omega))
                  obtain ⟨T, hT⟩ : ∃ T, textL L = T := ⟨_, rfl⟩
                  rw [hT] at HTX
                  have HTL := hd hT
                  have hts : (bs T).size = T.length := bs_size T
                  clear e2 e5 hT
                  by_cases h9 : 900 < T.length
                  · have HCE := hd (card_long HER.o HN12.o (by rw [HL.o]; exact HCPL.o) (by rw [HL.o, HTL.o]; exact h9))
                    have h9i : (900 : Int) < (T.length : Int) := by omega
                    go_wp2_with fail
                    refine HTX.o.mono ?_
                    rintro e w4 ⟨rfl, hb4⟩
                    have HW4 := hd (HWQ.o.trans (hb4.mono HWQ.o.size))
                    clear hb4
                    go_wp2
                    go_ret2
                    exact CanR.no HCE.o HW4.o
                  · have HCE := hd (card_good HER.o HN12.o (by rw [HL.o]; exact HCPL.o) (by rw [HL.o, HTL.o]; exact h9))
                    have h9i : ¬ (900 : Int) < (T.length : Int) := by omega
                    go_wp2_with fail
                    refine HTX.o.mono ?_
                    rintro e w4 ⟨rfl, hb4⟩
                    have HR4 := hd (HRQ.o.below hb4)
                    have HW4 := hd (HWQ.o.trans (hb4.mono HWQ.o.size))
                    clear hb4
                    go_wp2
                    go_ret2
                    exact ⟨⟨B3, q, d3, ret2 HCE.o.1.symm, by rw [HCE.o.2, HL.o]; exact HMM.o, by rw [HCE.o.2, HL.o]; exact HR4.o, HW4.o⟩⟩
                · have e5i : (1 : Int) < (z5 : Int) := by omega
                  have HCE := hd (card_cnt HER.o HN12.o (by rw [HL.o]; exact fun h => e5 (HCP.o.1 h).2.2))
                  clear e2 e5
                  go_wp2
                  go_ret2
                  exact CanR.no HCE.o HWQ.o
              · have e2i : (1 : Int) < (z2 : Int) := by omega
                have HCE := hd (card_cnt HER.o HN12.o (by rw [HL.o]; exact fun h => e2 (HCP.o.1 h).2.1))
                clear e2
                go_wp2
                go_ret2
                exact CanR.no HCE.o HWQ.o
            · have e1i : ((z1 : Int) != 1) = true := by simp; omega
              have HCE := hd (card_cnt HER.o HN12.o (by rw [HL.o]; exact fun h => e1 (HCP.o.1 h).1))
              clear e1
              go_wp2
              go_ret2
              exact CanR.no HCE.o HWQ.o

end Go.Proofs.YtogjokofmfpmgaaGreatDoor
namespace Go.Proofs.YtogjokofmfpmgaaGreatDoor
open Go.RowKit

set_option maxRecDepth 100000 in
set_option maxHeartbeats 2000000 in
theorem rtext_calls (w : World) (A : Option Addr) (n c : Nat) (l : List Fld) (hn : n = l.length) (hr : Rds w A n 3 (fsE l)) (hb : n ≤ 1000) (hm : ∀ f ∈ l, f.v.length ≤ 1000000) :
    Calls Tryz.prog 103 #[.slice A n c] w fun e w' => e = .returned (.tuple #[.string (bs (cardT l)), .int .i64 (cardE l)]) ∧ Below w.heap.size w w' := by
  have C1 := hd (rfields_calls w A n c l hn hr hb hm)
  clear hn hr hm
  obtain ⟨T, hT⟩ : ∃ T, cardT l = T := ⟨_, rfl⟩
  have HTT := hd hT
  rw [hT]
  clear hT
  go_enter Tryz.func103, Tryz.ntmps103
  go_wp2_with fail
  refine C1.o.mono ?_
  rintro e w1 ⟨⟨B, m, d, rfl, hm, hr, hb1⟩⟩
  have HB1 := hd hb1
  have HM := hd hm
  have HR := hd hr
  clear hm hr hb1
  by_cases he : cardE l = 0
  · have HOK := hd (cardT_ok he)
    have hm12 : m ≤ 12 := by rw [HM.o]; exact HOK.o.2.1
    have C2 := hd (rlines_calls w1 B m d (cardC l) HM.o HR.o.rds (by omega) (fun f hf => by have := may_len (HOK.o.2.2 f hf); omega))
    rw [← HOK.o.1, HTT.o] at C2
    have HE0 := hd he
    rw [he]
    clear he
    go_wp2_with fail
    refine C2.o.mono ?_
    rintro e w2 ⟨rfl, hb2⟩
    have HB2 := hd (HB1.o.trans (hb2.mono HB1.o.size))
    clear hb2
    go_wp2
    go_ret2
    exact ⟨retTE2 rfl HE0.o.symm, HB2.o⟩
  · have HNO := hd (cardT_no he)
    have nE : (cardE l != 0) = true := by simpa using he
    obtain ⟨ce, hce⟩ : ∃ ce, cardE l = ce := ⟨_, rfl⟩
    rw [hce] at nE
    rw [hce]
    have HCE := hd hce
    clear he hce
    go_wp2
    go_ret2
    exact ⟨retTE2 (by rw [← HTT.o, HNO.o]; rfl) HCE.o.symm, HB1.o⟩

end Go.Proofs.YtogjokofmfpmgaaGreatDoor
