/-
  A map that rises (EntCol): Put.
-/
import Derived.Test.YtbeckfnhgeclnaaOmHEntCol
import Derived.Deep.RegionWith
set_option linter.unusedVariables false
set_option linter.unusedSimpArgs false
namespace Go.Proofs.Ytbeckfnhgeclnaa
open Go.RowKit Go.Lib

theorem row_setkEntCol {w : World} {S : Nat → Prop} {e size n c g : Nat} {xs : List Value} (h : Row w S e size (some ⟨g, 0, none⟩) n c xs) (j : Nat) (u : Value) : Row (w.setCell ⟨g, j, none⟩ u) S e size (some ⟨g, 0, none⟩) n c (xs.set j u) := by
  obtain ⟨g', cur, e1, hS, hB, hnc, hcm, hcs, ht⟩ := h.block rfl
  injection e1 with e1
  subst e1
  refine Row.of_block (hB.set_ j u) hS hnc hcm (by simp [hcs]) ?_ (by simpa using h.len)
  rw [← ht]
  simp [List.take_set]

theorem bdrEntCol {B : Nat} {a w : World} (h : Below B a w) : Below B a w.drew := ⟨h.os, h.tape, h.output, h.size, h.block⟩

set_option maxHeartbeats 2000000 in
theorem omputEntCol_there (w : World) (S : Nat → Prop) (b : Nat) (l : ML Ce) (k : List UInt8) (v : Ce) (h : OmEntCol w S b l) (hl : l.length ≤ 1000000) (hq : hasM l k = true) :
    Calls Try.prog 73 #[.pointer (some ⟨b, 0, none⟩), .string (bs k), .agg (ceEnc v).toArray] w fun e w' => e = .returned (.bool false) ∧ OmEntCol w' (Plus S w.heap.size) b (putM l k v) ∧ Chg S w w' := by
  have hb1 := h.below ((Below.refl _ w).alloc (Nat.le_refl _) (.cells (ceEnc v).toArray 116))
  have hc := hd (findEntCol_calls (w.alloc (.cells (ceEnc v).toArray 116)) S b l k hb1 hl)
  rw [hq] at hc
  obtain ⟨hp, hpk, hgp⟩ := hasM_at h.rise hq
  have hsp := hd (putM_spec k v h.rise).1
  have e : putM l k v = l.set (place l k) (k, v) := by simp [putM, hq]
  rw [e] at hsp ⊢
  obtain ⟨p, hpp⟩ : ∃ p, place l k = p := ⟨_, rfl⟩
  obtain ⟨v0, hv0⟩ : ∃ v0, l[place l k] = (k, v0) := ⟨(l[place l k]).2, Prod.ext hpk rfl⟩
  have hset : meEntCol (l.set p (k, v)) = ((meEntCol l).take (p * 3)) ++ enEntCol (k, v) ++ ((meEntCol l).drop ((p + 1) * 3)) ∧ meEntCol l = ((meEntCol l).take (p * 3)) ++ enEntCol (k, v0) ++ ((meEntCol l).drop ((p + 1) * 3)) := by
    subst hpp
    have h1 : ∀ x, meEntCol (l.set (place l k) x) = ((meEntCol l).take (place l k * 3)) ++ enEntCol x ++ ((meEntCol l).drop ((place l k + 1) * 3)) := fun x => by
      unfold meEntCol
      rw [flat_set enEntCol l (place l k) hp x, flat_take enEntCol 3 enEntCol_len, flat_drop enEntCol 3 enEntCol_len]
    refine ⟨h1 _, ?_⟩
    have h2 := h1 (k, v0)
    rw [← hv0, List.set_getElem_self] at h2
    rw [← hv0]
    exact h2
  have HSET := hd hset
  rw [hpp] at hc hsp hp ⊢
  have H := hd hb1
  have HR := hd h.rise
  obtain ⟨n, hn⟩ : ∃ n, l.length = n := ⟨_, rfl⟩
  have HN := hd hn
  rw [hn] at hp hl
  clear h hq hb1 hgp hpk hpp hn hset e
  obtain ⟨ver, text⟩ := v
  simp only [ceEnc] at hc H ⊢
  go_enter Try.func73, Try.ntmps73
  go_wp2_with fail
  refine hc.o.mono ?_
  rintro e w1 ⟨rfl, hbe⟩
  obtain ⟨A, c, hb, hr, hS, _⟩ := H.o.below hbe
  rw [HN.o] at hb hr
  have hb0 := hb.at_ 0 rfl
  have hcap := hr.cap
  unfold maxLen at hcap
  have hzz := ((Blk.new w 116 #[.int .i64 ver, .string (bs text)]).below hbe (by simp))
  have hzl := hzz.lt
  (have z0 := hzz.at_ 0 rfl; have z1 := hzz.at_ 1 rfl; have y0 := hzz.frozen 0; have y1 := hzz.frozen 1)
  have HBE := hd ((balEntCol (Below.refl _ w) rfl (.cells #[.int .i64 ver, .string (bs text)] 116)).trans (hbe.mono (by simp)))
  obtain ⟨g, rfl, hgS, hgw, _, _, hcl, hfz⟩ := hr.at_ (by omega)
  have hcc : ∀ j u, j < 3 → (enEntCol (k, v0))[j]? = some u → w1.cell? ⟨g, p * 3 + j, none⟩ = some u := fun j u hj hv => hcl _ _ (by
    have h2 := HSET.o.2
    rw [h2, List.append_assoc, List.getElem?_append_right (by simp; omega)]
    have hl : ((meEntCol l).take (p * 3)).length = p * 3 := by rw [List.length_take, hr.len]; omega
    rw [hl, show p * 3 + j - p * 3 = j by omega, List.getElem?_append_left (by rw [enEntCol_len]; exact hj)]
    exact hv)
  have fz : ∀ j, w1.frozen? ⟨g, p * 3 + j, none⟩ = false := fun j => hfz _
  have hne := hr.ne_blk hb (by decide)
  have HNE : Hd (b ≠ g) := hd (fun e => hne _ rfl e.symm)
  have HB := hd hb
  have HRW := hd hr
  have HG := hd hgS
  obtain ⟨ver0, text0⟩ := v0
  (have k0 := hcc 0 _ (by omega) rfl; have k1 := hcc 1 _ (by omega) rfl; have k2 := hcc 2 _ (by omega) rfl; rw [Nat.add_zero] at k0)
  (have x1 := fz 1; have x2 := fz 2)
  have hi0 : (0 : Int) ≤ (p : Int) := by omega
  have hi1 : (p : Int) < (n : Int) := by omega
  clear hzz hc hbe hcl hcc hr hb hfz fz hgS hne
  go_wp2_with fail
  go_region
  go_wp2
  go_ret
  have hrow := (row_setkEntCol (row_setkEntCol (HRW.o) (p * 3 + 1) (.int .i64 ver)) (p * 3 + 1 + 1) (.string (bs text))).drew
  have e2 : ((meEntCol l).set (p * 3 + 1) (.int .i64 ver)).set (p * 3 + 1 + 1) (.string (bs text)) = meEntCol (l.set p (k, ⟨ver, text⟩)) := by
    have h1 := HSET.o.1
    have h2 := HSET.o.2
    have hPl : ((meEntCol l).take (p * 3)).length = p * 3 := by rw [List.length_take, HRW.o.len]; omega
    rw [h1]
    generalize (meEntCol l).take (p * 3) = P at h1 h2 hPl ⊢
    generalize (meEntCol l).drop ((p + 1) * 3) = R at h1 h2 ⊢
    rw [h2]
    simp [enEntCol, ceEnc, List.set_append, hPl, Nat.add_assoc]
  rw [e2] at hrow
  refine ⟨rfl, ⟨some ⟨g, 0, none⟩, c, ?_, ?_, .inl hS, hsp.o⟩, ?_⟩
  · rw [List.length_set, HN.o]
    exact (((HB.o).far HNE.o _).far HNE.o _).drew
  · rw [List.length_set, HN.o]
    exact hrow.mono fun q hq => .inl hq
  · exact (((Chg.of_below S HBE.o).setCell (.inl HG.o) _).setCell (.inl HG.o) _).drew

set_option maxRecDepth 100000 in
set_option maxHeartbeats 2000000 in
theorem omputEntCol_new (w : World) (S : Nat → Prop) (b : Nat) (l : ML Ce) (k : List UInt8) (v : Ce) (h : OmEntCol w S b l) (hl : l.length ≤ 1000000) (hSw : ∀ q, S q → q < w.heap.size) (hq : hasM l k = false) :
    Calls Try.prog 73 #[.pointer (some ⟨b, 0, none⟩), .string (bs k), .agg (ceEnc v).toArray] w fun e w' => e = .returned (.bool true) ∧ OmEntCol w' (Plus S w.heap.size) b (putM l k v) ∧ Chg S w w' := by
  have hb1 := h.below ((Below.refl _ w).alloc (Nat.le_refl _) (.cells (ceEnc v).toArray 116))
  have hc := hd (findEntCol_calls (w.alloc (.cells (ceEnc v).toArray 116)) S b l k hb1 hl)
  rw [hq] at hc
  have hsp := hd (putM_spec k v h.rise).1
  have e : putM l k v = l.take (place l k) ++ (k, v) :: l.drop (place l k) := by simp [putM, hq]
  rw [e] at hsp ⊢
  have hpl := place_le l k
  obtain ⟨p, hpp⟩ : ∃ p, place l k = p := ⟨_, rfl⟩
  rw [hpp] at hc hsp hpl ⊢
  have H := hd hb1
  obtain ⟨n, hn⟩ : ∃ n, l.length = n := ⟨_, rfl⟩
  have HN := hd hn
  rw [hn] at hpl hl
  clear h hq hb1 hpp hn e
  have hone := hd (enEntCol_one (k, v))
  obtain ⟨ver, text⟩ := v
  simp only [ceEnc] at hc H ⊢
  go_enter Try.func73, Try.ntmps73
  go_wp2_with fail
  refine hc.o.mono ?_
  rintro e w1 ⟨rfl, hbe⟩
  obtain ⟨A, c, hb, hr, hS, _⟩ := H.o.below hbe
  rw [HN.o] at hb hr
  have hb0 := hb.at_ 0 rfl
  have hcap := hr.cap
  unfold maxLen at hcap
  have hzz := ((Blk.new w 116 #[.int .i64 ver, .string (bs text)]).below hbe (by simp))
  have hzl := hzz.lt
  (have z0 := hzz.at_ 0 rfl; have z1 := hzz.at_ 1 rfl; have y0 := hzz.frozen 0; have y1 := hzz.frozen 1)
  have HBE := hd ((balEntCol (Below.refl _ w) rfl (.cells #[.int .i64 ver, .string (bs text)] 116)).trans (hbe.mono (by simp)))
  have hne := hr.ne_blk hb (by decide)
  have hfar : Hd (¬ Of A b) := hd (fun hk => by
    cases A with
    | none => exact Of.none hk
    | some a => exact hne a rfl hk.some_.symm)
  have hnew : Hd (¬ Of A w1.heap.size) := hd (fun hk => by
    cases A with
    | none => exact Of.none hk
    | some a =>
      have h1 := hr.lt rfl
      have h2 := hk.some_
      omega)
  have HB := hd hb
  have HRW := hd hr
  have hzz' := hzz
  clear hzz hc hbe hr hb hne
  have hen : Hd ((enEntCol (k, ⟨ver, text⟩)).toArray = #[.string (bs k), .int .i64 ver, .string (bs text)]) := hd rfl
  have hsz1 : Hd (w.heap.size < w1.heap.size) := hd hzl
  have hzA : Hd (¬ Of A w.heap.size) := hd (fun hk => by
    have h1 := HRW.o.of_sub _ hk
    have := hSw _ h1
    omega)
  have HZ := hd hzz'
  have hzb : Hd (w.heap.size ≠ b) := hd (fun e => by have := hSw _ hS; omega)
  have hbw := HB.o.lt
  have HF : Hd (∀ w', Below w1.heap.size w1 w' → w'.cell? ⟨w.heap.size, 0, none⟩ = some (.int .i64 ver) ∧ w'.cell? ⟨w.heap.size, 1, none⟩ = some (.string (bs text))) := hd (fun w' h => ⟨(HZ.o.below h HZ.o.lt).at_ 0 rfl, (HZ.o.below h HZ.o.lt).at_ 1 rfl⟩)
  clear hSw
  go_wp2_with fail
  go_region_with (first
      | (go_at_call 94
         refine (insEntCol_calls _ (Of A) A n c p (meEntCol l) (enEntCol (k, ⟨ver, text⟩)) _ (by with_reducible (repeat (first | exact HRW.o.own_ | refine Row.alloc ?_ _ | refine Row.drew ?_))) rfl (meEntCol_one l) (by rw [hen.o]; repeat (first | (refine Blk.new_ _ _ ?_ _ _; simp; done) | refine Blk.drew ?_ | refine Blk.alloc ?_ _)) hone.o hl hpl hnew.o).mono ?_
         rintro e w2 ⟨A2, c2, rfl, hr2, hc2⟩
         have hb2 : Blk w2 b 154 #[.slice A n c] := Blk.chg (by repeat (first | exact HB.o | refine Blk.drew ?_ | refine Blk.alloc ?_ _)) hc2 hfar.o
         have hz2 : Blk w2 w.heap.size 116 #[.int .i64 ver, .string (bs text)] := Blk.chg (by repeat (first | exact HZ.o | refine Blk.drew ?_ | refine Blk.alloc ?_ _)) hc2 hzA.o
         have hf2 := hb2.frozen 0
         have hg2 := hb2.at_ 0 rfl
         have HB2 := hd hb2
         have HR2 := hd hr2
         have HC2 := hd hc2
         clear hb2 hr2 hc2 hz2))
  all_goals
    go_wp2_with fail
    go_ret
    have hlen : (l.take p ++ (k, ⟨ver, text⟩) :: l.drop p).length = n + 1 := by
      simp only [List.length_append, List.length_cons, List.length_take, List.length_drop, HN.o]
      omega
    refine ⟨rfl, ⟨A2, c2, ?_, ?_, .inl hS, hsp.o⟩, ?_⟩
    · rw [hlen]
      exact HB2.o.set_ 0 _
    · rw [hlen, meEntCol_ins]
      refine (HR2.o.mono fun q hq => ?_).far (HR2.o.ne_blk HB2.o (by decide)) _
      rcases hq with hq | hq
      · exact .inl (HRW.o.of_sub q hq)
      · simp at hq
        exact .inr (by omega)
    · refine Chg.setCell (Chg.trans ?_ HC2.o (fun q hq => .inl (HRW.o.of_sub q hq))) (.inl hS) _
      repeat (first | exact Chg.of_below S HBE.o | refine Chg.drew ?_ | refine Chg.alloc ?_ _)

/-- Put. -/
theorem omputEntCol_calls (w : World) (S : Nat → Prop) (b : Nat) (l : ML Ce) (k : List UInt8) (v : Ce) (h : OmEntCol w S b l) (hl : l.length ≤ 1000000) (hSw : ∀ q, S q → q < w.heap.size) :
    Calls Try.prog 73 #[.pointer (some ⟨b, 0, none⟩), .string (bs k), .agg (ceEnc v).toArray] w fun e w' => e = .returned (.bool (!hasM l k)) ∧ OmEntCol w' (Plus S w.heap.size) b (putM l k v) ∧ Chg S w w' := by
  cases hq : hasM l k with
  | true => exact omputEntCol_there w S b l k v h hl hq
  | false => exact omputEntCol_new w S b l k v h hl hSw hq

end Go.Proofs.Ytbeckfnhgeclnaa
