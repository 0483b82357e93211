/-
  A map that rises (EntItem): Put.
-/
import Derived.Test.YtbeckfnhgeclnaaOmHEntItem
import Derived.Deep.RegionWith
set_option linter.unusedVariables false
set_option linter.unusedSimpArgs false
namespace Go.Proofs.Ytbeckfnhgeclnaa
open Go.RowKit Go.Lib

theorem row_setkEntItem {w : World} {S : Nat → Prop} {e size n c g : Nat} {xs : List Value} (h : Row w S e size (some ⟨g, 0, none⟩) n c xs) (j : Nat) (u : Value) : Row (w.setCell ⟨g, j, none⟩ u) S e size (some ⟨g, 0, none⟩) n c (xs.set j u) := by
  obtain ⟨g', cur, e1, hS, hB, hnc, hcm, hcs, ht⟩ := h.block rfl
  injection e1 with e1
  subst e1
  refine Row.of_block (hB.set_ j u) hS hnc hcm (by simp [hcs]) ?_ (by simpa using h.len)
  rw [← ht]
  simp [List.take_set]

theorem bdrEntItem {B : Nat} {a w : World} (h : Below B a w) : Below B a w.drew := ⟨h.os, h.tape, h.output, h.size, h.block⟩

set_option maxHeartbeats 2000000 in
theorem omputEntItem_there (w : World) (S : Nat → Prop) (b : Nat) (l : ML It) (k : List UInt8) (v : It) (h : OmEntItem w S b l) (hl : l.length ≤ 1000000) (hq : hasM l k = true) :
    Calls Try.prog 59 #[.pointer (some ⟨b, 0, none⟩), .string (bs k), .agg (itEnc v).toArray] w fun e w' => e = .returned (.bool false) ∧ OmEntItem w' (Plus S w.heap.size) b (putM l k v) ∧ Chg S w w' := by
  have hb1 := h.below ((Below.refl _ w).alloc (Nat.le_refl _) (.cells (itEnc v).toArray 41))
  have hc := hd (findEntItem_calls (w.alloc (.cells (itEnc v).toArray 41)) S b l k hb1 hl)
  rw [hq] at hc
  obtain ⟨hp, hpk, hgp⟩ := hasM_at h.rise hq
  have hsp := hd (putM_spec k v h.rise).1
  have e : putM l k v = l.set (place l k) (k, v) := by simp [putM, hq]
  rw [e] at hsp ⊢
  obtain ⟨p, hpp⟩ : ∃ p, place l k = p := ⟨_, rfl⟩
  obtain ⟨v0, hv0⟩ : ∃ v0, l[place l k] = (k, v0) := ⟨(l[place l k]).2, Prod.ext hpk rfl⟩
  have hset : meEntItem (l.set p (k, v)) = ((meEntItem l).take (p * 5)) ++ enEntItem (k, v) ++ ((meEntItem l).drop ((p + 1) * 5)) ∧ meEntItem l = ((meEntItem l).take (p * 5)) ++ enEntItem (k, v0) ++ ((meEntItem l).drop ((p + 1) * 5)) := by
    subst hpp
    have h1 : ∀ x, meEntItem (l.set (place l k) x) = ((meEntItem l).take (place l k * 5)) ++ enEntItem x ++ ((meEntItem l).drop ((place l k + 1) * 5)) := fun x => by
      unfold meEntItem
      rw [flat_set enEntItem l (place l k) hp x, flat_take enEntItem 5 enEntItem_len, flat_drop enEntItem 5 enEntItem_len]
    refine ⟨h1 _, ?_⟩
    have h2 := h1 (k, v0)
    rw [← hv0, List.set_getElem_self] at h2
    rw [← hv0]
    exact h2
  have HSET := hd hset
  rw [hpp] at hc hsp hp ⊢
  have H := hd hb1
  have HR := hd h.rise
  obtain ⟨n, hn⟩ : ∃ n, l.length = n := ⟨_, rfl⟩
  have HN := hd hn
  rw [hn] at hp hl
  clear h hq hb1 hgp hpk hpp hn hset e
  obtain ⟨uid, ver, gone, card⟩ := v
  simp only [itEnc] at hc H ⊢
  go_enter Try.func59, Try.ntmps59
  go_wp2_with fail
  refine hc.o.mono ?_
  rintro e w1 ⟨rfl, hbe⟩
  obtain ⟨A, c, hb, hr, hS, _⟩ := H.o.below hbe
  rw [HN.o] at hb hr
  have hb0 := hb.at_ 0 rfl
  have hcap := hr.cap
  unfold maxLen at hcap
  have hzz := ((Blk.new w 41 #[.string (bs uid), .int .i64 ver, .bool gone, .string (bs card)]).below hbe (by simp))
  have hzl := hzz.lt
  (have z0 := hzz.at_ 0 rfl; have z1 := hzz.at_ 1 rfl; have z2 := hzz.at_ 2 rfl; have z3 := hzz.at_ 3 rfl; have y0 := hzz.frozen 0; have y1 := hzz.frozen 1; have y2 := hzz.frozen 2; have y3 := hzz.frozen 3)
  have HBE := hd ((balEntItem (Below.refl _ w) rfl (.cells #[.string (bs uid), .int .i64 ver, .bool gone, .string (bs card)] 41)).trans (hbe.mono (by simp)))
  obtain ⟨g, rfl, hgS, hgw, _, _, hcl, hfz⟩ := hr.at_ (by omega)
  have hcc : ∀ j u, j < 5 → (enEntItem (k, v0))[j]? = some u → w1.cell? ⟨g, p * 5 + j, none⟩ = some u := fun j u hj hv => hcl _ _ (by
    have h2 := HSET.o.2
    rw [h2, List.append_assoc, List.getElem?_append_right (by simp; omega)]
    have hl : ((meEntItem l).take (p * 5)).length = p * 5 := by rw [List.length_take, hr.len]; omega
    rw [hl, show p * 5 + j - p * 5 = j by omega, List.getElem?_append_left (by rw [enEntItem_len]; exact hj)]
    exact hv)
  have fz : ∀ j, w1.frozen? ⟨g, p * 5 + j, none⟩ = false := fun j => hfz _
  have hne := hr.ne_blk hb (by decide)
  have HNE : Hd (b ≠ g) := hd (fun e => hne _ rfl e.symm)
  have HB := hd hb
  have HRW := hd hr
  have HG := hd hgS
  obtain ⟨uid0, ver0, gone0, card0⟩ := v0
  (have k0 := hcc 0 _ (by omega) rfl; have k1 := hcc 1 _ (by omega) rfl; have k2 := hcc 2 _ (by omega) rfl; have k3 := hcc 3 _ (by omega) rfl; have k4 := hcc 4 _ (by omega) rfl; rw [Nat.add_zero] at k0)
  (have x1 := fz 1; have x2 := fz 2; have x3 := fz 3; have x4 := fz 4)
  have hi0 : (0 : Int) ≤ (p : Int) := by omega
  have hi1 : (p : Int) < (n : Int) := by omega
  clear hzz hc hbe hcl hcc hr hb hfz fz hgS hne
  go_wp2_with fail
  go_region
  go_wp2
  go_ret
  have hrow := (row_setkEntItem (row_setkEntItem (row_setkEntItem (row_setkEntItem (HRW.o) (p * 5 + 1) (.string (bs uid))) (p * 5 + 1 + 1) (.int .i64 ver)) (p * 5 + 1 + 2) (.bool gone)) (p * 5 + 1 + 3) (.string (bs card))).drew
  have e2 : ((((meEntItem l).set (p * 5 + 1) (.string (bs uid))).set (p * 5 + 1 + 1) (.int .i64 ver)).set (p * 5 + 1 + 2) (.bool gone)).set (p * 5 + 1 + 3) (.string (bs card)) = meEntItem (l.set p (k, ⟨uid, ver, gone, card⟩)) := by
    have h1 := HSET.o.1
    have h2 := HSET.o.2
    have hPl : ((meEntItem l).take (p * 5)).length = p * 5 := by rw [List.length_take, HRW.o.len]; omega
    rw [h1]
    generalize (meEntItem l).take (p * 5) = P at h1 h2 hPl ⊢
    generalize (meEntItem l).drop ((p + 1) * 5) = R at h1 h2 ⊢
    rw [h2]
    simp [enEntItem, itEnc, List.set_append, hPl, Nat.add_assoc]
  rw [e2] at hrow
  refine ⟨rfl, ⟨some ⟨g, 0, none⟩, c, ?_, ?_, .inl hS, hsp.o⟩, ?_⟩
  · rw [List.length_set, HN.o]
    exact (((((HB.o).far HNE.o _).far HNE.o _).far HNE.o _).far HNE.o _).drew
  · rw [List.length_set, HN.o]
    exact hrow.mono fun q hq => .inl hq
  · exact (((((Chg.of_below S HBE.o).setCell (.inl HG.o) _).setCell (.inl HG.o) _).setCell (.inl HG.o) _).setCell (.inl HG.o) _).drew

set_option maxRecDepth 100000 in
set_option maxHeartbeats 2000000 in
theorem omputEntItem_new (w : World) (S : Nat → Prop) (b : Nat) (l : ML It) (k : List UInt8) (v : It) (h : OmEntItem w S b l) (hl : l.length ≤ 1000000) (hSw : ∀ q, S q → q < w.heap.size) (hq : hasM l k = false) :
    Calls Try.prog 59 #[.pointer (some ⟨b, 0, none⟩), .string (bs k), .agg (itEnc v).toArray] w fun e w' => e = .returned (.bool true) ∧ OmEntItem w' (Plus S w.heap.size) b (putM l k v) ∧ Chg S w w' := by
  have hb1 := h.below ((Below.refl _ w).alloc (Nat.le_refl _) (.cells (itEnc v).toArray 41))
  have hc := hd (findEntItem_calls (w.alloc (.cells (itEnc v).toArray 41)) S b l k hb1 hl)
  rw [hq] at hc
  have hsp := hd (putM_spec k v h.rise).1
  have e : putM l k v = l.take (place l k) ++ (k, v) :: l.drop (place l k) := by simp [putM, hq]
  rw [e] at hsp ⊢
  have hpl := place_le l k
  obtain ⟨p, hpp⟩ : ∃ p, place l k = p := ⟨_, rfl⟩
  rw [hpp] at hc hsp hpl ⊢
  have H := hd hb1
  obtain ⟨n, hn⟩ : ∃ n, l.length = n := ⟨_, rfl⟩
  have HN := hd hn
  rw [hn] at hpl hl
  clear h hq hb1 hpp hn e
  have hone := hd (enEntItem_one (k, v))
  obtain ⟨uid, ver, gone, card⟩ := v
  simp only [itEnc] at hc H ⊢
  go_enter Try.func59, Try.ntmps59
  go_wp2_with fail
  refine hc.o.mono ?_
  rintro e w1 ⟨rfl, hbe⟩
  obtain ⟨A, c, hb, hr, hS, _⟩ := H.o.below hbe
  rw [HN.o] at hb hr
  have hb0 := hb.at_ 0 rfl
  have hcap := hr.cap
  unfold maxLen at hcap
  have hzz := ((Blk.new w 41 #[.string (bs uid), .int .i64 ver, .bool gone, .string (bs card)]).below hbe (by simp))
  have hzl := hzz.lt
  (have z0 := hzz.at_ 0 rfl; have z1 := hzz.at_ 1 rfl; have z2 := hzz.at_ 2 rfl; have z3 := hzz.at_ 3 rfl; have y0 := hzz.frozen 0; have y1 := hzz.frozen 1; have y2 := hzz.frozen 2; have y3 := hzz.frozen 3)
  have HBE := hd ((balEntItem (Below.refl _ w) rfl (.cells #[.string (bs uid), .int .i64 ver, .bool gone, .string (bs card)] 41)).trans (hbe.mono (by simp)))
  have hne := hr.ne_blk hb (by decide)
  have hfar : Hd (¬ Of A b) := hd (fun hk => by
    cases A with
    | none => exact Of.none hk
    | some a => exact hne a rfl hk.some_.symm)
  have hnew : Hd (¬ Of A w1.heap.size) := hd (fun hk => by
    cases A with
    | none => exact Of.none hk
    | some a =>
      have h1 := hr.lt rfl
      have h2 := hk.some_
      omega)
  have HB := hd hb
  have HRW := hd hr
  have hzz' := hzz
  clear hzz hc hbe hr hb hne
  have hen : Hd ((enEntItem (k, ⟨uid, ver, gone, card⟩)).toArray = #[.string (bs k), .string (bs uid), .int .i64 ver, .bool gone, .string (bs card)]) := hd rfl
  have hsz1 : Hd (w.heap.size < w1.heap.size) := hd hzl
  have hzA : Hd (¬ Of A w.heap.size) := hd (fun hk => by
    have h1 := HRW.o.of_sub _ hk
    have := hSw _ h1
    omega)
  have HZ := hd hzz'
  have hzb : Hd (w.heap.size ≠ b) := hd (fun e => by have := hSw _ hS; omega)
  have hbw := HB.o.lt
  have HF : Hd (∀ w', Below w1.heap.size w1 w' → w'.cell? ⟨w.heap.size, 0, none⟩ = some (.string (bs uid)) ∧ w'.cell? ⟨w.heap.size, 1, none⟩ = some (.int .i64 ver) ∧ w'.cell? ⟨w.heap.size, 2, none⟩ = some (.bool gone) ∧ w'.cell? ⟨w.heap.size, 3, none⟩ = some (.string (bs card))) := hd (fun w' h => ⟨(HZ.o.below h HZ.o.lt).at_ 0 rfl, (HZ.o.below h HZ.o.lt).at_ 1 rfl, (HZ.o.below h HZ.o.lt).at_ 2 rfl, (HZ.o.below h HZ.o.lt).at_ 3 rfl⟩)
  clear hSw
  go_wp2_with fail
  go_region_with (first
      | (go_at_call 85
         refine (insEntItem_calls _ (Of A) A n c p (meEntItem l) (enEntItem (k, ⟨uid, ver, gone, card⟩)) _ (by with_reducible (repeat (first | exact HRW.o.own_ | refine Row.alloc ?_ _ | refine Row.drew ?_))) rfl (meEntItem_one l) (by rw [hen.o]; repeat (first | (refine Blk.new_ _ _ ?_ _ _; simp; done) | refine Blk.drew ?_ | refine Blk.alloc ?_ _)) hone.o hl hpl hnew.o).mono ?_
         rintro e w2 ⟨A2, c2, rfl, hr2, hc2⟩
         have hb2 : Blk w2 b 136 #[.slice A n c] := Blk.chg (by repeat (first | exact HB.o | refine Blk.drew ?_ | refine Blk.alloc ?_ _)) hc2 hfar.o
         have hz2 : Blk w2 w.heap.size 41 #[.string (bs uid), .int .i64 ver, .bool gone, .string (bs card)] := Blk.chg (by repeat (first | exact HZ.o | refine Blk.drew ?_ | refine Blk.alloc ?_ _)) hc2 hzA.o
         have hf2 := hb2.frozen 0
         have hg2 := hb2.at_ 0 rfl
         have HB2 := hd hb2
         have HR2 := hd hr2
         have HC2 := hd hc2
         clear hb2 hr2 hc2 hz2))
  all_goals
    go_wp2_with fail
    go_ret
    have hlen : (l.take p ++ (k, ⟨uid, ver, gone, card⟩) :: l.drop p).length = n + 1 := by
      simp only [List.length_append, List.length_cons, List.length_take, List.length_drop, HN.o]
      omega
    refine ⟨rfl, ⟨A2, c2, ?_, ?_, .inl hS, hsp.o⟩, ?_⟩
    · rw [hlen]
      exact HB2.o.set_ 0 _
    · rw [hlen, meEntItem_ins]
      refine (HR2.o.mono fun q hq => ?_).far (HR2.o.ne_blk HB2.o (by decide)) _
      rcases hq with hq | hq
      · exact .inl (HRW.o.of_sub q hq)
      · simp at hq
        exact .inr (by omega)
    · refine Chg.setCell (Chg.trans ?_ HC2.o (fun q hq => .inl (HRW.o.of_sub q hq))) (.inl hS) _
      repeat (first | exact Chg.of_below S HBE.o | refine Chg.drew ?_ | refine Chg.alloc ?_ _)

/-- Put. -/
theorem omputEntItem_calls (w : World) (S : Nat → Prop) (b : Nat) (l : ML It) (k : List UInt8) (v : It) (h : OmEntItem w S b l) (hl : l.length ≤ 1000000) (hSw : ∀ q, S q → q < w.heap.size) :
    Calls Try.prog 59 #[.pointer (some ⟨b, 0, none⟩), .string (bs k), .agg (itEnc v).toArray] w fun e w' => e = .returned (.bool (!hasM l k)) ∧ OmEntItem w' (Plus S w.heap.size) b (putM l k v) ∧ Chg S w w' := by
  cases hq : hasM l k with
  | true => exact omputEntItem_there w S b l k v h hl hq
  | false => exact omputEntItem_new w S b l k v h hl hSw hq

end Go.Proofs.Ytbeckfnhgeclnaa
