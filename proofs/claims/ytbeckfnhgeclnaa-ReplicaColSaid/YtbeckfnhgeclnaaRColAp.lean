/-
  The reference's collection: Apply.
-/
import Derived.Test.YtbeckfnhgeclnaaRColA
import Derived.Deep.RegionLaw
import Derived.Deep.CutRange
import Derived.Deep.Cut
import Derived.BigRegion
set_option linter.unusedVariables false
set_option linter.unusedSimpArgs false
namespace Go.Proofs.Ytbeckfnhgeclnaa
open Go.RowKit Go.Lib

set_option maxRecDepth 100000 in
set_option maxHeartbeats 4000000 in
theorem rapply_no (w : World) (S : Nat → Prop) (b : Nat) (s : Cs) (o : OpV) (t : Int) (h : RCol w S b s) (hri : Rising s.ml) (hl : s.ml.length ≤ 1000000) (hn : s.no o t = true) :
    Calls Try.prog 45 #[.pointer (some ⟨b, 0, none⟩), .agg (opEnc o).toArray, .int .i64 t] w fun e w' => e = .returned (.bool false) ∧ Below w.heap.size w w' := by
  have hb1 := h.below ((Below.refl _ w).alloc (Nat.le_refl _) (.cells (opEnc o).toArray 65))
  have hP := hd (rplace_calls (w.alloc (.cells (opEnc o).toArray 65)) S b s o.uid hb1 hri hl)
  have H := hd hb1
  obtain ⟨d, u, c, ck, cv⟩ := o
  simp only [opEnc] at hP H ⊢
  have HN : Hd (t < s.latest ∨ (¬ t < s.latest ∧ d = true ∧ hasM s.ml u = false) ∨ (¬ t < s.latest ∧ d = false ∧ hasM s.ml u = false ∧ s.most ≤ (s.ml.length : Int))) := hd (by
    simp only [Cs.no] at hn
    cases d <;> cases hh : hasM s.ml u <;> simp [hh] at hn ⊢ <;> omega)
  have hln := liveL_len s.ml
  generalize place s.ml u = p at *
  generalize hasM s.ml u = there at *
  clear hb1 h hn hri
  go_enter Try.func45, Try.ntmps45
  go_wp2_with fail
  refine hP.o.mono ?_
  rintro e w1 ⟨rfl, q, rfl⟩
  obtain ⟨wq, hwq⟩ : ∃ wq, wq = (w.alloc (.cells #[.bool d, .string (bs u), .string (bs c), .int .i64 ck, .int .i64 cv] 65)).drewN q := ⟨_, rfl⟩
  have HBE : Hd (Below w.heap.size w wq) := hd (by rw [hwq]; exact bdrewN ((Below.refl _ w).alloc (Nat.le_refl _) _) q)
  have hx : Blk wq w.heap.size 65 #[.bool d, .string (bs u), .string (bs c), .int .i64 ck, .int .i64 cv] := by rw [hwq]; exact (Blk.new w 65 _).drewN q
  have x0 := hx.at_ 0 rfl
  have x1 := hx.at_ 1 rfl
  have hc : RCol wq S b s := by rw [hwq]; exact H.o.below (bdrewN (Below.refl _ _) q)
  obtain ⟨A, c1, A2, c2, hb, _⟩ := hc
  rw [hln] at hb
  have y0 := hb.at_ 0 rfl
  have y2 := hb.at_ 2 rfl
  have y4 := hb.at_ 4 rfl
  rw [← hwq]
  generalize s.ml.length = n at *
  generalize s.most = most at *
  generalize s.latest = latest at *
  clear hx hb hP H hwq hln
  rcases HN.o with h1 | ⟨h1, rfl, rfl⟩ | ⟨h1, rfl, rfl, h2⟩
  · have f1 : decide (t < latest) = true := by simpa using h1
    clear h1 HN
    go_wp2_with fail
    go_quiet (fail)
    go_wp2
    go_ret
    exact ⟨rfl, bdrewN HBE.o _⟩
  · have f1 : decide (t < latest) = false := by simpa using h1
    clear h1 HN
    go_wp2_with fail
    go_quiet (fail)
    go_wp2
    go_ret
    exact ⟨rfl, bdrewN HBE.o _⟩
  · have f1 : decide (t < latest) = false := by simpa using h1
    have f2 : decide (most ≤ (n : Int)) = true := by simpa using h2
    clear h1 HN
    go_wp2_with fail
    go_quiet (fail)
    go_wp2
    go_ret
    exact ⟨rfl, bdrewN HBE.o _⟩

/-- The list behind a write: what stands ahead, the item, what stands behind. -/
theorem mls_live {s : Cs} (hr : Rising s.ml) (o : OpV) (t : Int) : liveL (s.mls o t) = (liveL s.ml).take (place s.ml o.uid) ++ (if o.del = true then [] else [⟨o.uid, t, false, o.card⟩]) ++ (liveL s.ml).drop (if hasM s.ml o.uid = true then place s.ml o.uid + 1 else place s.ml o.uid) := by
  unfold Cs.mls
  by_cases hd : o.del = true
  · simp only [hd, if_true]
    unfold delM
    by_cases hh : hasM s.ml o.uid = true
    · simp only [hh, if_true]
      rw [List.eraseIdx_eq_take_drop_succ]
      simp [liveL, List.map_take, List.map_drop]
    · simp [hh]
  · simp only [hd]
    unfold putM
    by_cases hh : hasM s.ml o.uid = true
    · obtain ⟨hp, hpk, hgp⟩ := hasM_at hr hh
      simp only [hh, if_true]
      rw [List.set_eq_take_append_cons_drop, if_pos hp]
      simp [liveL, List.map_take, List.map_drop, itOf]
    · simp [hh, liveL, List.map_take, List.map_drop, itOf]

theorem itsEnc_len' (l : List It) : (itsEnc l).length = l.length * 4 := flat_length itEnc 4 itEnc_len l
theorem Rds.takeI {w : World} {A : Option Addr} {n : Nat} {l : List It} (h : Rds w A n 4 (itsEnc l)) (m : Nat) (hm : m ≤ n) : Rds w A m 4 (itsEnc (l.take m)) := by
  have hl := h.len
  rw [itsEnc_len'] at hl
  refine ⟨by rw [itsEnc_len', List.length_take]; congr 1; omega, fun h0 => ?_⟩
  obtain ⟨g, o, hA, hg, hc⟩ := h.at_ (by omega)
  refine ⟨g, o, hA, hg, fun j u hu => hc j u ?_⟩
  have e : itsEnc (l.take m) = (itsEnc l).take (m * 4) := (flat_take itEnc 4 itEnc_len l m).symm
  rw [e, List.getElem?_take] at hu
  split at hu
  · exact hu
  · cases hu
theorem Rds.dropI {w : World} {A : Option Addr} {n c : Nat} {l : List It} (h : Rds w A n 4 (itsEnc l)) (hnc : n ≤ c) (m : Nat) (hm : m ≤ n) : Rds w (if c = m then A else A.map (·.add (m * 4))) (n - m) 4 (itsEnc (l.drop m)) := by
  have hl := h.len
  rw [itsEnc_len'] at hl
  refine ⟨by rw [itsEnc_len', List.length_drop]; congr 1; omega, fun h0 => ?_⟩
  obtain ⟨g, o, hA, hg, hc⟩ := h.at_ (by omega)
  rw [if_neg (by omega), hA]
  refine ⟨g, o + m * 4, by simp [Addr.add_lit], hg, fun j u hu => ?_⟩
  have e : itsEnc (l.drop m) = (itsEnc l).drop (m * 4) := (flat_drop itEnc 4 itEnc_len l m).symm
  rw [e, List.getElem?_drop] at hu
  have := hc _ _ hu
  rw [← Nat.add_assoc] at this
  exact this

/-- While the new list is made: the collection as it was. -/
structure RK (w wx : World) (S : Nat → Prop) (b : Nat) (s : Cs) (A : Option Addr) (c : Nat) (A2 : Option Addr) (c2 : Nat) (o : OpV) : Prop where
  blk : Blk wx b 112 #[.int .i64 s.most, .int .i64 s.cap, .slice A (liveL s.ml).length c, .slice A2 s.log.length c2, .int .i64 s.latest, .int .i64 s.horizon]
  rowL : Row wx S 41 4 A (liveL s.ml).length c (itsEnc (liveL s.ml))
  rowG : Row wx S 114 2 A2 s.log.length c2 (chsEnc s.log)
  box : Blk wx w.heap.size 65 (opEnc o).toArray
  chg : Chg Non w wx
theorem RK.own {w wx w2 : World} {S T : Nat → Prop} {b : Nat} {s : Cs} {A : Option Addr} {c : Nat} {A2 : Option Addr} {c2 : Nat} {o : OpV} (h : RK w wx S b s A c A2 c2 o) (hS : S b) (hSw : ∀ q, S q → q < w.heap.size) (hc : Chg T wx w2) (hT : ∀ q, T q → w.heap.size + 1 ≤ q) : RK w w2 S b s A c A2 c2 o :=
  ⟨h.blk.chg hc (fun hq => by have := hT _ hq; have := hSw _ hS; omega), h.rowL.chg hc (fun q hq hq2 => by have := hT _ hq2; have := hSw _ hq; omega), h.rowG.chg hc (fun q hq hq2 => by have := hT _ hq2; have := hSw _ hq; omega), h.box.chg hc (fun hq => by have := hT _ hq; omega), h.chg.trans hc (fun q hq => .inr (by have := hT _ hq; omega))⟩
theorem RK.drewN {w wx : World} {S : Nat → Prop} {b : Nat} {s : Cs} {A : Option Addr} {c : Nat} {A2 : Option Addr} {c2 : Nat} {o : OpV} (h : RK w wx S b s A c A2 c2 o) (q : Nat) : RK w (wx.drewN q) S b s A c A2 c2 o :=
  ⟨h.blk.drewN q, h.rowL.drewN q, h.rowG.drewN q, h.box.drewN q, h.chg.drewN q⟩

/-- Behind the new list. -/
structure RX (w wx : World) (S : Nat → Prop) (b : Nat) (s : Cs) (A : Option Addr) (c : Nat) (L : List It) (A2 : Option Addr) (n2 c2 : Nat) (log : List Ch) (la ho : Int) (o : OpV) : Prop where
  blk : Blk wx b 112 #[.int .i64 s.most, .int .i64 s.cap, .slice A L.length c, .slice A2 n2 c2, .int .i64 la, .int .i64 ho]
  rowL : Row wx (fun q => S q ∨ w.heap.size + 1 ≤ q) 41 4 A L.length c (itsEnc L)
  rowG : Row wx (fun q => S q ∨ w.heap.size + 1 ≤ q) 114 2 A2 n2 c2 (chsEnc log)
  box : Blk wx w.heap.size 65 (opEnc o).toArray
  chg : Chg S w wx
theorem RX.drew {w wx : World} {S : Nat → Prop} {b : Nat} {s : Cs} {A : Option Addr} {c : Nat} {L : List It} {A2 : Option Addr} {n2 c2 : Nat} {log : List Ch} {la ho : Int} {o : OpV} (h : RX w wx S b s A c L A2 n2 c2 log la ho o) : RX w wx.drew S b s A c L A2 n2 c2 log la ho o :=
  ⟨h.blk.drew, h.rowL.drew, h.rowG.drew, h.box.drew, h.chg.drew⟩
theorem RX.drewN {w wx : World} {S : Nat → Prop} {b : Nat} {s : Cs} {A : Option Addr} {c : Nat} {L : List It} {A2 : Option Addr} {n2 c2 : Nat} {log : List Ch} {la ho : Int} {o : OpV} (h : RX w wx S b s A c L A2 n2 c2 log la ho o) (q : Nat) : RX w (wx.drewN q) S b s A c L A2 n2 c2 log la ho o :=
  ⟨h.blk.drewN q, h.rowL.drewN q, h.rowG.drewN q, h.box.drewN q, h.chg.drewN q⟩
theorem RX.alloc {w wx : World} {S : Nat → Prop} {b : Nat} {s : Cs} {A : Option Addr} {c : Nat} {L : List It} {A2 : Option Addr} {n2 c2 : Nat} {log : List Ch} {la ho : Int} {o : OpV} (h : RX w wx S b s A c L A2 n2 c2 log la ho o) (x : Obj) : RX w (wx.alloc x) S b s A c L A2 n2 c2 log la ho o :=
  ⟨h.blk.alloc x, h.rowL.alloc x, h.rowG.alloc x, h.box.alloc x, h.chg.alloc x⟩
theorem RX.set2 {w wx : World} {S : Nat → Prop} {b : Nat} {s : Cs} {A : Option Addr} {c : Nat} {A2 : Option Addr} {c2 : Nat} {o : OpV} (h : RK w wx S b s A c A2 c2 o) (hS : S b) (hSw : ∀ q, S q → q < w.heap.size) {A3 : Option Addr} {n3 c3 : Nat} {L : List It} (hn : L.length = n3) (hr : Row wx (From (w.heap.size + 1)) 41 4 A3 n3 c3 (itsEnc L)) :
    RX w (wx.setCell ⟨b, 2, none⟩ (.slice A3 n3 c3)) S b s A3 c3 L A2 s.log.length c2 s.log s.latest s.horizon o := by
  subst hn
  have hb := hSw _ hS
  refine ⟨h.blk.set_ 2 _, (hr.far (p := ⟨b, 2, none⟩) (hr.ne_blk h.blk (by decide)) _).mono (fun q hq => .inr hq), (h.rowG.far (p := ⟨b, 2, none⟩) (h.rowG.ne_blk h.blk (by decide)) _).mono (fun q hq => .inl hq), h.box.far (p := ⟨b, 2, none⟩) (by show w.heap.size ≠ b; omega) _, ((h.chg.mono (fun _ h => h.elim)).setCell (.inl hS) _)⟩
theorem RX.set3 {w wx w2 : World} {S : Nat → Prop} {b : Nat} {s : Cs} {A : Option Addr} {c : Nat} {L : List It} {A2 : Option Addr} {n2 c2 : Nat} {log : List Ch} {la ho : Int} {o : OpV} (h : RX w wx S b s A c L A2 n2 c2 log la ho o) (hS : S b) (hSw : ∀ q, S q → q < w.heap.size) {A3 : Option Addr} {n3 c3 : Nat} {log3 : List Ch} {U : Nat → Prop} (hU : ∀ q, U q → Of A2 q ∨ w.heap.size + 1 ≤ q) (hUL : ∀ q, U q → ¬ Of A q) (hr : Row w2 (fun q => Of A2 q ∨ w.heap.size + 1 ≤ q) 114 2 A3 n3 c3 (chsEnc log3)) (hc : Chg U wx w2) :
    RX w (w2.setCell ⟨b, 3, none⟩ (.slice A3 n3 c3)) S b s A c L A3 n3 c3 log3 la ho o := by
  have hb := hSw _ hS
  have hA2 : ∀ q, Of A2 q → (S q ∨ w.heap.size + 1 ≤ q) := h.rowG.of_sub
  have hb2 : ¬ Of A2 b := fun hk => by
    cases A2 with
    | none => exact Of.none hk
    | some a => exact h.rowG.ne_blk h.blk (by decide) a rfl hk.some_.symm
  have hUb : ¬ U b := fun hq => (hU _ hq).elim hb2 (fun h => by omega)
  have hUx : ¬ U w.heap.size := fun hq => (hU _ hq).elim (fun h => (hA2 _ h).elim (fun h => by have := hSw _ h; omega) (fun h => by omega)) (fun h => by omega)
  have B := h.blk.chg hc hUb
  refine ⟨B.set_ 3 _, (Row.far (p := ⟨b, 3, none⟩) (h.rowL.keep fun a ha => hc.block _ (h.rowL.lt ha) (fun hu => hUL _ hu (by rw [ha]; rfl))) ?_ _), (hr.far (p := ⟨b, 3, none⟩) (hr.ne_blk B (by decide)) _).mono (fun q hq => hq.elim (hA2 q) .inr), (h.box.chg hc hUx).far (p := ⟨b, 3, none⟩) (by show w.heap.size ≠ b; omega) _, (h.chg.trans hc (fun q hq => (hU _ hq).elim (fun h => (hA2 _ h).elim .inl (fun h => .inr (by omega))) (fun h => .inr (by omega)))).setCell (.inl hS) _⟩
  exact h.rowL.ne_blk h.blk (by decide)
theorem RX.blk2 {w W w2 : World} {S : Nat → Prop} {b : Nat} {s : Cs} {A : Option Addr} {c : Nat} {L : List It} {A2 : Option Addr} {n2 c2 : Nat} {log : List Ch} {la ho : Int} {o : OpV} (h : RX w W S b s A c L A2 n2 c2 log la ho o) (hc : Chg (Of A2) W w2) : Blk w2 b 112 #[.int .i64 s.most, .int .i64 s.cap, .slice A L.length c, .slice A2 n2 c2, .int .i64 la, .int .i64 ho] :=
  h.blk.chg hc (fun hk => by
    cases A2 with
    | none => exact Of.none hk
    | some a => exact h.rowG.ne_blk h.blk (by decide) a rfl hk.some_.symm)
theorem RX.pair {w W w2 : World} {S : Nat → Prop} {b : Nat} {s : Cs} {A : Option Addr} {c : Nat} {L : List It} {A2 : Option Addr} {n2 c2 : Nat} {log : List Ch} {la ho : Int} {o : OpV} (h : RX w W S b s A c L A2 n2 c2 log la ho o) (hc : Chg (Of A2) W w2) : RX w W S b s A c L A2 n2 c2 log la ho o ∧ Chg (Of A2) W w2 := ⟨h, hc⟩
theorem RX.pairB {w W w2 : World} {S : Nat → Prop} {b : Nat} {s : Cs} {A : Option Addr} {c : Nat} {L : List It} {A2 : Option Addr} {n2 c2 : Nat} {log : List Ch} {la ho : Int} {o : OpV} (h : RX w W S b s A c L A2 n2 c2 log la ho o) (hc : Below W.heap.size W w2) : (RX w W S b s A c L A2 n2 c2 log la ho o ∧ Below W.heap.size W w2) ∧ Blk w2 b 112 #[.int .i64 s.most, .int .i64 s.cap, .slice A L.length c, .slice A2 n2 c2, .int .i64 la, .int .i64 ho] := ⟨⟨h, hc⟩, h.blk.below hc h.blk.lt⟩
theorem RX.app {w W w2 : World} {S : Nat → Prop} {b : Nat} {s : Cs} {A : Option Addr} {c : Nat} {L : List It} {A2 : Option Addr} {n2 c2 : Nat} {log : List Ch} {la ho : Int} {o : OpV} (h : RX w W S b s A c L A2 n2 c2 log la ho o) (hS : S b) (hSw : ∀ q, S q → q < w.heap.size) {A3 : Option Addr} {n3 c3 : Nat} {log3 : List Ch} (hr : Row w2 (Plus (Of A2) W.heap.size) 114 2 A3 n3 c3 (chsEnc log3)) (hc : Chg (Of A2) W w2) :
    RX w (w2.setCell ⟨b, 3, none⟩ (.slice A3 n3 c3)) S b s A c L A3 n3 c3 log3 la ho o :=
  h.set3 hS hSw (fun q h => .inl h) (fun q hq hk => h.rowG.apart h.rowL (by decide) q hq hk) (hr.mono fun q hq => hq.imp id (fun h2 => Nat.le_trans h.box.lt h2)) hc
theorem RX.anew {w W w2 : World} {S : Nat → Prop} {b : Nat} {s : Cs} {A : Option Addr} {c : Nat} {L : List It} {A2 : Option Addr} {n2 c2 : Nat} {log : List Ch} {la ho : Int} {o : OpV} (h : RX w W S b s A c L A2 n2 c2 log la ho o) (hS : S b) (hSw : ∀ q, S q → q < w.heap.size) {A3 : Option Addr} {n3 c3 : Nat} {log3 : List Ch} (hr : Row w2 (From W.heap.size) 114 2 A3 n3 c3 (chsEnc log3)) (hc : Below W.heap.size W w2) :
    RX w (w2.setCell ⟨b, 3, none⟩ (.slice A3 n3 c3)) S b s A c L A3 n3 c3 log3 la ho o :=
  h.set3 hS hSw (U := Non) (fun q h => h.elim) (fun q hq => hq.elim) (hr.mono fun q hq => .inr (Nat.le_trans h.box.lt hq)) (Chg.of_below Non hc)
theorem chs_app (l : List Ch) (t : Int) (u : List UInt8) : chsEnc (l ++ [(t, u)]) = chsEnc l ++ [.int .i64 t, .string (bs u)] := by simp [chsEnc, chEnc]
theorem chs_drop (l : List Ch) : chsEnc (l.drop 1) = (chsEnc l).drop 2 := by cases l <;> simp [chsEnc, chEnc]
theorem RX.set5 {w wx : World} {S : Nat → Prop} {b : Nat} {s : Cs} {A : Option Addr} {c : Nat} {L : List It} {A2 : Option Addr} {n2 c2 : Nat} {log : List Ch} {la ho : Int} {o : OpV} (h : RX w wx S b s A c L A2 n2 c2 log la ho o) (hS : S b) (hSw : ∀ q, S q → q < w.heap.size) (x : Int) : RX w (wx.setCell ⟨b, 5, none⟩ (.int .i64 x)) S b s A c L A2 n2 c2 log la x o := by
  have hb := hSw _ hS
  exact ⟨h.blk.set_ 5 _, h.rowL.far (p := ⟨b, 5, none⟩) (h.rowL.ne_blk h.blk (by decide)) _, h.rowG.far (p := ⟨b, 5, none⟩) (h.rowG.ne_blk h.blk (by decide)) _, h.box.far (p := ⟨b, 5, none⟩) (by show w.heap.size ≠ b; omega) _, h.chg.setCell (.inl hS) _⟩
theorem RX.set4 {w wx : World} {S : Nat → Prop} {b : Nat} {s : Cs} {A : Option Addr} {c : Nat} {L : List It} {A2 : Option Addr} {n2 c2 : Nat} {log : List Ch} {la ho : Int} {o : OpV} (h : RX w wx S b s A c L A2 n2 c2 log la ho o) (hS : S b) (hSw : ∀ q, S q → q < w.heap.size) (x : Int) : RX w (wx.setCell ⟨b, 4, none⟩ (.int .i64 x)) S b s A c L A2 n2 c2 log x ho o := by
  have hb := hSw _ hS
  exact ⟨h.blk.set_ 4 _, h.rowL.far (p := ⟨b, 4, none⟩) (h.rowL.ne_blk h.blk (by decide)) _, h.rowG.far (p := ⟨b, 4, none⟩) (h.rowG.ne_blk h.blk (by decide)) _, h.box.far (p := ⟨b, 4, none⟩) (by show w.heap.size ≠ b; omega) _, h.chg.setCell (.inl hS) _⟩
theorem RX.col {w wx : World} {S : Nat → Prop} {b : Nat} {s : Cs} {A : Option Addr} {c : Nat} {A2 : Option Addr} {n2 c2 : Nat} {log : List Ch} {t : Int} {o : OpV} (h : RX w wx S b s A c (liveL (s.mls o t)) A2 n2 c2 log t s.hor o) (hS : S b) (hlog : log = pushL s.cap s.log (t, o.uid)) : RCol wx (Plus S w.heap.size) b (s.app o t) := by
  subst hlog
  have hl := h.rowG.len
  rw [chsEnc_len] at hl
  have hn : n2 = (pushL s.cap s.log (t, o.uid)).length := by omega
  subst hn
  exact ⟨A, c, A2, c2, h.blk, h.rowL.mono (fun q hq => hq.imp id (fun h => by omega)), h.rowG.mono (fun q hq => hq.imp id (fun h => by omega)), .inl hS⟩

set_option maxRecDepth 100000 in
set_option maxHeartbeats 8000000 in
theorem rapply_yes (w : World) (S : Nat → Prop) (b : Nat) (s : Cs) (o : OpV) (t : Int) (h : RCol w S b s) (hok : s.Ok) (hSw : ∀ q, S q → q < w.heap.size) (hl : s.ml.length < 1000000) (hlg : s.log.length < 1000000) (hn : s.no o t = false) :
    Calls Try.prog 45 #[.pointer (some ⟨b, 0, none⟩), .agg (opEnc o).toArray, .int .i64 t] w fun e w' => e = .returned (.bool true) ∧ RCol w' (Plus S w.heap.size) b (s.app o t) ∧ Chg S w w' := by
  obtain ⟨i0, hi, hz0, hz1, hz2⟩ := info_parts itInfo
  have hb1 := h.below ((Below.refl _ w).alloc (Nat.le_refl _) (.cells (opEnc o).toArray 65))
  have hP := hd (rplace_calls (w.alloc (.cells (opEnc o).toArray 65)) S b s o.uid hb1 hok.rise (by omega))
  obtain ⟨A, c, A2, c2, hb, hrL, hrG, hS⟩ := h
  have hbl := hb.lt
  have HK : Hd (RK w (w.alloc (.cells (opEnc o).toArray 65)) S b s A c A2 c2 o) := hd ⟨hb.alloc _, hrL.alloc _, hrG.alloc _, Blk.new _ _ _, (Chg.refl Non w).alloc _⟩
  have HOK := hd hok
  have HSW := hd hSw
  have HSB := hd hS
  have HML := hd (mls_live hok.rise o t)
  have hcap := hrL.cap
  have hpl := place_le s.ml o.uid
  have hph : hasM s.ml o.uid = true → place s.ml o.uid < s.ml.length := fun hh => by obtain ⟨hp, _⟩ := hasM_at hok.rise hh; exact hp
  have hln := liveL_len s.ml
  clear hb hrL hrG hb1 hok hSw hS
  obtain ⟨d, u, cd, ck, cv⟩ := o
  simp only [opEnc] at hP ⊢
  simp only at hpl hph HML
  have HN : Hd (¬ t < s.latest ∧ ((d = true ∧ hasM s.ml u = true) ∨ (d = false ∧ hasM s.ml u = true) ∨ (d = false ∧ hasM s.ml u = false ∧ ¬ s.most ≤ (s.ml.length : Int)))) := hd (by
    simp only [Cs.no] at hn
    cases d <;> cases hh : hasM s.ml u <;> simp [hh] at hn ⊢ <;> omega)
  obtain ⟨p, hp⟩ : ∃ p, place s.ml u = p := ⟨_, rfl⟩
  rw [hp] at hP hpl hph HML
  obtain ⟨there, hth⟩ : ∃ x, hasM s.ml u = x := ⟨_, rfl⟩
  rw [hth] at hP HN HML hph
  obtain ⟨n, hnn⟩ : ∃ n, s.ml.length = n := ⟨_, rfl⟩
  rw [hnn] at hpl hph hl hln HN
  rw [hln] at hcap
  unfold maxLen at hcap
  have HLN := hd hln
  clear hp hth hnn hn hln
  go_enter Try.func45, Try.ntmps45
  go_wp2_with fail
  refine hP.o.mono ?_
  rintro e w1 ⟨rfl, q, rfl⟩
  obtain ⟨wq, hwq⟩ : ∃ wq, wq = (w.alloc (.cells #[.bool d, .string (bs u), .string (bs cd), .int .i64 ck, .int .i64 cv] 65)).drewN q := ⟨_, rfl⟩
  have HQ : Hd (RK w wq S b s A c A2 c2 ⟨d, u, cd, ck, cv⟩) := hd (by rw [hwq]; exact HK.o.drewN q)
  have x0 : wq.cell? ⟨w.heap.size, 0, none⟩ = some (.bool d) := HQ.o.box.at_ 0 rfl
  have y0 := HQ.o.blk.at_ 0 rfl
  have y2 : wq.cell? ⟨b, 2, none⟩ = some (.slice A n c) := by have := HQ.o.blk.at_ 2 rfl; rw [HLN.o] at this; exact this
  have y4 := HQ.o.blk.at_ 4 rfl
  rw [← hwq]
  clear hwq HK hP
  go_wp2_with fail
  go_cut [51] from 17 to 51 (fun s51 wx => s51 = .bool false ∧ Hd (∃ q, wx = wq.drewN q))
  case first =>
    have h1 := HN.o.1
    have f1 : decide (t < s.latest) = false := by simpa using h1
    clear h1
    rcases HN.o.2 with ⟨rfl, rfl⟩ | ⟨rfl, rfl⟩ | ⟨rfl, rfl, h2⟩
    · go_quiet (fail)
      go_wp2_with fail
      go_meet
      exact ⟨rfl, hd ⟨_, rfl⟩⟩
    · go_quiet (fail)
      go_wp2_with fail
      go_meet
      exact ⟨rfl, hd ⟨_, rfl⟩⟩
    · have f2 : decide (s.most ≤ (n : Int)) = false := by simpa using h2
      clear h2
      go_quiet (fail)
      go_wp2_with fail
      go_meet
      exact ⟨rfl, hd ⟨_, rfl⟩⟩
  case rest =>
    obtain ⟨rfl, hq⟩ := hcut
    have HC : Hd (RK w wc S b s A c A2 c2 ⟨d, u, cd, ck, cv⟩) := hd (by obtain ⟨q, rfl⟩ := hq.o; exact HQ.o.drewN q)
    clear hq HQ x0 y0 y2 y4
    have y2 : wc.cell? ⟨b, 2, none⟩ = some (.slice A n c) := by have := HC.o.blk.at_ 2 rfl; rw [HLN.o] at this; exact this
    have HSRC : Hd (Rds wc A p 4 (itsEnc ((liveL s.ml).take p))) := hd (by have := HC.o.rowL.rds.takeI p (by rw [HLN.o]; exact hpl); exact this)
    have HONE : Hd (∀ L : List It, ∀ u ∈ itsEnc L, u.oneCell' = true) := hd (fun L u hu => by
      obtain ⟨x, _, h⟩ := List.mem_flatMap.1 hu
      exact itEnc_one x u h)
    have hmm : 0 + p ≤ maxLen := by unfold maxLen; omega
    have hby : (0 + p) * 48 ≤ 140737488355328 := by omega
    have hsz : w.heap.size + 1 ≤ wc.heap.size := HC.o.box.lt
    have hpc : (p : Int) ≤ (c : Int) := by omega
    have hp0 : (0 : Int) ≤ (p : Int) := by omega
    have HSZ := hd hsz
    obtain ⟨k2, hk2⟩ : ∃ k2, (if d = true then p else p + 1) = k2 := ⟨_, rfl⟩
    obtain ⟨pre2, hpre2⟩ : ∃ l, (liveL s.ml).take p ++ (if d = true then [] else [(⟨u, t, false, cd⟩ : It)]) = l := ⟨_, rfl⟩
    obtain ⟨i2, hi2⟩ : ∃ i, (if there = true then p + 1 else p) = i := ⟨_, rfl⟩
    rw [hpre2, hi2] at HML
    have HK2E := hd hk2
    have HPRE := hd hpre2
    have HI2 := hd hi2
    have hi2n : i2 ≤ n := by
      rw [← hi2]
      split
      · exact hph (by assumption)
      · exact hpl
    have hpln : pre2.length = k2 := by rw [← hpre2, ← hk2, List.length_append, List.length_take, HLN.o]; cases d <;> simp <;> omega
    have HPL := hd hpln
    have hk2n : k2 ≤ n + 1 := by rw [← hk2]; split <;> omega
    clear hk2 hpre2 hi2 hpln hph HN
    go_upto_if 62 with (at_builtin; refine wpList_append_rowG rfl _ _ 28 rfl (From (w.heap.size + 1)) 41 i0 (.agg #[.string ⟨#[]⟩, .int .i64 0, .bool false, .string ⟨#[]⟩]) 4 48 Try.underlying28 hi hz0 hz1 hz2 rfl none 0 0 [] rfl (Row.nil _ _ _ _) A p c (itsEnc ((liveL s.ml).take p)) rfl HSRC.o (HONE.o _) hmm hby ?_; intro E1 e1 w1 hr1 hc1; have HK1 := hd (HC.o.own HSB.o HSW.o hc1 (fun q hq => hq)); have HR1 := hd (hr1.mono (T := From (w.heap.size + 1)) (fun q hq => hq.elim id (fun h => Nat.le_trans HSZ.o h))); have z0 : w1.cell? ⟨w.heap.size, 0, none⟩ = some (.bool d) := HK1.o.box.at_ 0 rfl; have HS1 := hd (Nat.le_trans HSZ.o hc1.size); clear hr1 hc1)
    go_cut [9] from 62 to 71 (fun s9 wx => ∃ E e, s9 = .slice E k2 e ∧ Hd (Row wx (From (w.heap.size + 1)) 41 4 E k2 e (itsEnc pre2)) ∧ Hd (RK w wx S b s A c A2 c2 ⟨d, u, cd, ck, cv⟩) ∧ Hd (w.heap.size + 1 ≤ wx.heap.size))
    case first =>
      have hz : 0 + p = p := Nat.zero_add p
      have hr1 := HR1.o
      rw [hz, List.nil_append] at hr1
      have HR1 := hd hr1
      clear hr1 hz
      cases d with
      | true =>
        have HE : Hd (k2 = p ∧ pre2 = (liveL s.ml).take p) := hd ⟨by rw [← HK2E.o]; rfl, by rw [← HPRE.o]; simp⟩
        go_wp2_with fail
        go_meet
        refine ⟨E1, e1, ?_, hd ?_, HK1, HS1⟩
        · rw [HE.o.1]
        · rw [HE.o.1, HE.o.2]; exact HR1.o
      | false =>
        have HE : Hd (k2 = p + 1 ∧ pre2 = (liveL s.ml).take p ++ [⟨u, t, false, cd⟩]) := hd ⟨by rw [← HK2E.o]; rfl, by rw [← HPRE.o]; simp⟩
        have z1 : w1.cell? ⟨w.heap.size, 1, none⟩ = some (.string (bs u)) := HK1.o.box.at_ 1 rfl
        have z2 : w1.cell? ⟨w.heap.size, 2, none⟩ = some (.string (bs cd)) := HK1.o.box.at_ 2 rfl
        have hmm2 : p + 1 ≤ maxLen := by unfold maxLen; omega
        have hby2 : (p + 1) * 48 ≤ 140737488355328 := by omega
        go_wp2_with (at_builtin; refine wpList_append_row rfl _ _ 28 rfl (From (w.heap.size + 1)) 41 i0 (.agg #[.string ⟨#[]⟩, .int .i64 0, .bool false, .string ⟨#[]⟩]) 4 48 Try.underlying28 hi hz0 hz1 hz2 rfl E1 p e1 (itsEnc ((liveL s.ml).take p)) rfl (HR1.o.alloc _) ⟨w1.heap.size, 0, none⟩ 1 1 [.string (bs u), .int .i64 t, .bool false, .string (bs cd)] rfl rfl (cells_at (Blk.new_ _ _ rfl 41 _) rfl) (itEnc_one ⟨u, t, false, cd⟩) (by omega) hmm2 hby2 ?_; intro E2 e2 w2 hr2 hc2; have HR2 := hd hr2; have HC2 := hd hc2; clear hr2 hc2)
        go_meet
        have hal : Chg (From (w.heap.size + 1)) w1 w2 := ((Chg.refl _ w1).alloc _).trans HC2.o (fun _ h => .inl h)
        refine ⟨E2, e2, ?_, hd ?_, hd (HK1.o.own HSB.o HSW.o hal (fun q hq => hq)), hd (Nat.le_trans HS1.o hal.size)⟩
        · rw [HE.o.1]
        · rw [HE.o.1, HE.o.2]
          have e0 : itsEnc ((liveL s.ml).take p ++ [(⟨u, t, false, cd⟩ : It)]) = itsEnc ((liveL s.ml).take p) ++ [.string (bs u), .int .i64 t, .bool false, .string (bs cd)] := by simp [itsEnc, itEnc]
          rw [e0]
          refine HR2.o.mono fun q hq => hq.elim id fun h => ?_
          have h : (w1.alloc _).heap.size ≤ q := h
          simp at h
          show w.heap.size + 1 ≤ q
          have := HS1.o
          omega
    case rest =>
      obtain ⟨E2, e2, rfl, HR2, HK2, HS2⟩ := hcut
      obtain ⟨wd, rfl⟩ : ∃ wd : World, wd = wc := ⟨_, rfl⟩
      clear HR1 HK1 HS1 z0 HC HSRC y2 hmm hby hsz hpc hp0
      go_upto_if 72 with (fail)
      go_cut [7] from 72 to 74 (fun s7 wx => s7 = .int .i64 (i2 : Nat) ∧ wx = wd)
      case first =>
        cases there with
        | true =>
          have HE : Hd (i2 = p + 1) := hd (by rw [← HI2.o]; rfl)
          go_wp2_with fail
          go_meet
          exact ⟨by rw [HE.o]; first | rfl | go_num, rfl⟩
        | false =>
          have HE : Hd (i2 = p) := hd (by rw [← HI2.o]; rfl)
          go_wp2_with fail
          go_meet
          exact ⟨by rw [HE.o], rfl⟩
      case rest =>
        obtain ⟨rfl, rfl⟩ := hcut
        have y2 : wc.cell? ⟨b, 2, none⟩ = some (.slice A n c) := by have := HK2.o.blk.at_ 2 rfl; rw [HLN.o] at this; exact this
        have yf2 := HK2.o.blk.frozen 2
        have hmm3 : k2 + (n - i2) ≤ maxLen := by unfold maxLen; omega
        have hby3 : (k2 + (n - i2)) * 48 ≤ 140737488355328 := by omega
        have HDR0 := hd (HK2.o.rowL.rds.dropI (c := c) (by rw [HLN.o]; exact hcap.1) i2 (by rw [HLN.o]; exact hi2n))
        rw [HLN.o] at HDR0
        have hii : (i2 : Int) ≤ (n : Int) := by omega
        have hi0 : (0 : Int) ≤ (i2 : Int) := by omega
        go_upto_region 10 with (fail)
        have HL3 : Hd ((liveL (s.mls ⟨d, u, cd, ck, cv⟩ t)).length = k2 + (n - i2)) := hd (by rw [HML, List.length_append, HPL.o, List.length_drop, HLN.o])
        have HE3 : Hd (itsEnc (liveL (s.mls ⟨d, u, cd, ck, cv⟩ t)) = itsEnc pre2 ++ itsEnc ((liveL s.ml).drop i2)) := hd (by rw [HML]; simp [itsEnc])
        go_cut [] from 75 to 85 (fun wx => ∃ E e, Hd (RX w wx S b s E e (liveL (s.mls ⟨d, u, cd, ck, cv⟩ t)) A2 s.log.length c2 s.log s.latest s.horizon ⟨d, u, cd, ck, cv⟩))
        case first =>
          by_cases hci : c = i2
          · have HDR := HDR0
            rw [if_pos hci] at HDR
            have hci2 : decide (c = i2) = true := by simpa using hci
            subst hci
            have hnc0 : n - c = 0 := by omega
            rw [hnc0] at HDR hmm3 hby3
            have HN0 := hd hnc0
            clear hnc0
            go_wp2_with (at_builtin; (refine wpList_append_rowG rfl _ _ 28 rfl (From (w.heap.size + 1)) 41 i0 (.agg #[.string ⟨#[]⟩, .int .i64 0, .bool false, .string ⟨#[]⟩]) 4 48 Try.underlying28 hi hz0 hz1 hz2 rfl E2 k2 e2 (itsEnc pre2) rfl HR2.o _ 0 _ (itsEnc ((liveL s.ml).drop c)) rfl HDR.o (HONE.o _) hmm3 hby3 ?_; intro E3 e3 w3 hr3 hc3; have HK3 := hd (HK2.o.own HSB.o HSW.o hc3 (fun q hq => hq)); have HR3 := hd (hr3.mono (T := From (w.heap.size + 1)) (fun q hq => hq.elim id (fun h => Nat.le_trans HS2.o h))); have q2 := HK3.o.blk.at_ 2 rfl; have qf2 := HK3.o.blk.frozen 2; clear hr3 hc3))
            go_meet
            exact ⟨E3, e3, hd (RX.set2 HK3.o HSB.o HSW.o (by rw [HL3.o, HN0.o]; try rfl) (by rw [HE3.o]; exact HR3.o))⟩
          · have HDR := HDR0
            rw [if_neg hci] at HDR
            have hci2 : decide (c = i2) = false := by simpa using hci
            go_wp2_with (at_builtin; refine wpList_append_rowG rfl _ _ 28 rfl (From (w.heap.size + 1)) 41 i0 (.agg #[.string ⟨#[]⟩, .int .i64 0, .bool false, .string ⟨#[]⟩]) 4 48 Try.underlying28 hi hz0 hz1 hz2 rfl E2 k2 e2 (itsEnc pre2) rfl HR2.o _ (n - i2) (c - i2) (itsEnc ((liveL s.ml).drop i2)) rfl HDR.o (HONE.o _) hmm3 hby3 ?_; intro E3 e3 w3 hr3 hc3; have HK3 := hd (HK2.o.own HSB.o HSW.o hc3 (fun q hq => hq)); have HR3 := hd (hr3.mono (T := From (w.heap.size + 1)) (fun q hq => hq.elim id (fun h => Nat.le_trans HS2.o h))); have q2 := HK3.o.blk.at_ 2 rfl; have qf2 := HK3.o.blk.frozen 2; clear hr3 hc3)
            go_meet
            exact ⟨E3, e3, hd (RX.set2 HK3.o HSB.o HSW.o HL3.o (by rw [HE3.o]; exact HR3.o))⟩
        case rest =>
          obtain ⟨E3, e3, HX⟩ := hcut
          obtain ⟨L', hL'⟩ : ∃ L', liveL (s.mls ⟨d, u, cd, ck, cv⟩ t) = L' := ⟨_, rfl⟩
          have HLL := hd hL'
          rw [hL'] at HX
          obtain ⟨i1, hi1, hy0, hy1, hy2⟩ := info_parts rchInfo
          obtain ⟨m, hm⟩ : ∃ m, s.log.length = m := ⟨_, rfl⟩
          obtain ⟨m1, hm1⟩ : ∃ m1, m + 1 = m1 := ⟨_, rfl⟩
          have HM := hd hm
          have HM1 := hd hm1
          rw [hm] at HX hlg
          obtain ⟨log3, hlog3⟩ : ∃ l, s.log ++ [(t, u)] = l := ⟨_, rfl⟩
          have HLG := hd hlog3
          obtain ⟨wg, hwg⟩ : ∃ wg : World, wg = wc := ⟨_, rfl⟩
          rw [← hwg] at HX
          have z3 := HX.o.blk.at_ 3 rfl
          have zf3 := HX.o.blk.frozen 3
          have b1 : wg.cell? ⟨w.heap.size, 1, none⟩ = some (.string (bs u)) := HX.o.box.at_ 1 rfl
          have HRq : Hd (RowO wg (Of A2) 114 2 A2 m c2 (chsEnc s.log)) := hd (.inl HX.o.rowG.own_)
          have hzb := HX.o.blk.lt
          have hzx := HX.o.box.lt
          have hone := chEnc_one (t, u)
          simp only [chEnc] at hone
          have HONE2 := hd hone
          have hmm5 : m + 1 ≤ maxLen := by unfold maxLen; omega
          have hby5 : (m + 1) * 24 ≤ 140737488355328 := by omega
          rw [← hwg]
          clear HML HK2 HR2 HDR0 HL3 HE3 hmm3 hby3 hii hi0 y2 yf2 hwg hone hm hm1 hlog3 hL' HSZ HONE hi2n hk2n hpl hcap
          go_upto_region 11 with (fail)
          go_cut [] from 86 to 98 (fun wx => ∃ A3 c3, Hd (RX w wx S b s E3 e3 L' A3 m1 c3 log3 s.latest s.horizon ⟨d, u, cd, ck, cv⟩))
          case first =>
            go_region_law (go_loud (
              (refine step_append_or (by rfl) _ _ 110 (by rfl) (Of A2) 114 i1 (.agg #[.int .i64 0, .string ⟨#[]⟩]) 2 24 Try.underlying110 hi1 hy0 hy1 hy2 rfl A2 m c2 (chsEnc s.log) (by rfl) _ 1 1 [.int .i64 t, .string (bs u)] (by rfl) rfl HONE2.o (by omega) hmm5 hby5 ?_ ?_ ?_
               · (with_reducible (repeat (first | exact HRq.o | refine RowO.alloc ?_ _ | refine RowO.drew ?_)))
               · (refine cells_at (t := 114) (cs := #[.int .i64 t, .string (bs u)]) ?_ rfl
                  repeat (first | (with_reducible refine Blk.new_ _ _ ?_ _ _; simp; done) | with_reducible refine Blk.alloc ?_ _ | with_reducible refine Blk.drew ?_))
               intro E1 e1 w2 z1 zc1
               have HXW := hd (RX.pair (w := w) (S := S) (b := b) (s := s) (A := E3) (c := e3) (L := L') (A2 := A2) (n2 := m) (c2 := c2) (log := s.log) (la := s.latest) (ho := s.horizon) (o := ⟨d, u, cd, ck, cv⟩) (by with_reducible (repeat (first | exact HX.o | refine RX.alloc ?_ _ | refine RX.drew ?_))) zc1)
               have HZ1 := hd z1
               have v3 := (RX.blk2 HXW.o.1 HXW.o.2).at_ 3 rfl
               have vf3 := (RX.blk2 HXW.o.1 HXW.o.2).frozen 3
               clear z1 zc1)))
            all_goals
              go_wp2_with fail
              go_meet
              refine ⟨E1, e1, hd ?_⟩
              rw [← HM1.o]
              refine RX.app HXW.o.1 HSB.o HSW.o ?_ HXW.o.2
              have h := HZ1.o
              rw [← chs_app, HLG.o] at h
              exact h
          case rest =>
            obtain ⟨A3, c3, HX3⟩ := hcut
            clear HX z3 zf3 b1 hzb hzx HRq hmm5 hby5 HONE2
            obtain ⟨wh, hwh⟩ : ∃ wh : World, wh = wc := ⟨_, rfl⟩
            rw [← hwh] at HX3
            have z3 := HX3.o.blk.at_ 3 rfl
            have zf3 := HX3.o.blk.frozen 3
            have z1 := HX3.o.blk.at_ 1 rfl
            have z5 := HX3.o.blk.at_ 5 rfl
            have zf5 := HX3.o.blk.frozen 5
            rw [← hwh]
            have hm1p : 0 < m1 := by have := HM1.o; omega
            obtain ⟨g, hA3, hg1, hg2, hg3, hg4, hcl, _⟩ := HX3.o.rowG.at_ hm1p
            have HCL := hd hcl
            have hcap3 := hg3
            clear hwh hcl
            go_upto_region 12 with (fail)
            have HFIN : Hd (∀ W A4 n4 c4, RX w W S b s E3 e3 L' A4 n4 c4 (pushL s.cap s.log (t, u)) t s.hor ⟨d, u, cd, ck, cv⟩ → RCol W (Plus S w.heap.size) b (s.app ⟨d, u, cd, ck, cv⟩ t) ∧ Chg S w W) := hd (fun W A4 n4 c4 hX => by
              rw [← HLL.o] at hX
              exact ⟨hX.col HSB.o rfl, hX.chg⟩)
            cases hpf : pushFull s.cap s.log with
            | true =>
              have h4 : (s.log.length : Int) = s.cap := by unfold pushFull at hpf; simpa using hpf
              have hfull : decide (s.cap < (m1 : Int)) = true := by
                have h1 := HM1.o
                have h2 := HM.o
                rw [h2] at h4
                simp only [decide_eq_true_eq]
                omega
              have HP : Hd (pushL s.cap s.log (t, u) = log3.drop 1 ∧ s.hor = max s.horizon (s.log.headD (0, [])).1 ∧ log3.headD (0, []) = s.log.headD (0, []) ∧ 2 ≤ m1) := hd (by
                have h5 := HOK.o.cap1
                have h6 : 1 ≤ s.log.length := by omega
                have h1 := HM1.o
                have h2 := HM.o
                rw [← HLG.o]
                refine ⟨?_, ?_, ?_, by omega⟩
                · unfold pushL; rw [hpf, if_pos rfl]
                  cases hsl : s.log with
                  | nil => rw [hsl] at h6; simp at h6
                  | cons x l => rfl
                · unfold Cs.hor; rw [hpf, if_pos rfl]
                · cases hsl : s.log with
                  | nil => rw [hsl] at h6; simp at h6
                  | cons x l => rfl)
              clear hpf h4
              obtain ⟨tk0, htk⟩ : ∃ x, (log3.headD (0, [])).1 = x := ⟨_, rfl⟩
              have HTK := hd htk
              have HHO : Hd (s.hor = max s.horizon tk0) := hd (by rw [HP.o.2.1, ← HP.o.2.2.1, HTK.o])
              have r0 : wh.cell? ⟨g, 0, none⟩ = some (.int .i64 tk0) := by
                refine HCL.o 0 _ ?_
                rw [← htk]
                cases hll : log3 with
                | nil => have h5 := HLG.o; rw [hll] at h5; simp at h5
                | cons x l => simp [chsEnc, chEnc]
              have HA3 := hd hA3
              have hm2 : 2 ≤ m1 := HP.o.2.2.2
              subst hA3
              clear htk
              go_quiet (fail)
              go_wp2_with fail
              obtain ⟨wi, hwi⟩ : ∃ wi, wi = wh.drewN nq := ⟨_, rfl⟩
              have HXi : Hd (RX w wi S b s E3 e3 L' (some ⟨g, 0, none⟩) m1 c3 log3 s.latest s.horizon ⟨d, u, cd, ck, cv⟩) := hd (by rw [hwi]; exact HX3.o.drewN _)
              have r0i : wi.cell? ⟨g, 0, none⟩ = some (.int .i64 tk0) := by rw [hwi]; exact r0
              rw [← hwi]
              clear r0 z3 zf3 z1 z5 zf5 hwi HX3 HCL
              have z3 := HXi.o.blk.at_ 3 rfl
              have z5 := HXi.o.blk.at_ 5 rfl
              have zf5 := HXi.o.blk.frozen 5
              have KEY : Hd (∀ x, s.hor = x → RX w ((wi.setCell ⟨b, 5, none⟩ (.int .i64 x)).drew) S b s E3 e3 L' (some ⟨g, 0, none⟩) m1 c3 log3 s.latest s.hor ⟨d, u, cd, ck, cv⟩) := hd (fun x hx => by
                rw [hx]
                exact (HXi.o.set5 HSB.o HSW.o x).drew)
              go_cut [] from 109 to 123 (fun wx => Hd (RX w wx S b s E3 e3 L' (some ⟨g, 0, none⟩) m1 c3 log3 s.latest s.hor ⟨d, u, cd, ck, cv⟩))
              case first =>
                go_region
                all_goals
                  go_wp2_with fail
                  all_goals
                    go_meet
                    exact hd (KEY.o _ (by have := HHO.o; omega))
              case rest =>
                have HXj := hcut
                clear hcut KEY r0i z3 z5 zf5 HXi
                have z3 := HXj.o.blk.at_ 3 rfl
                have zf3 := HXj.o.blk.frozen 3
                have zl := HXj.o.blk.lt
                have hc31 : ¬ c3 = 1 := by omega
                have hmm6 : 0 + (m1 - 1) ≤ maxLen := by have := HM1.o; unfold maxLen; omega
                have hby6 : (0 + (m1 - 1)) * 24 ≤ 140737488355328 := by have := HM1.o; omega
                have h1c : (1 : Int) ≤ (m1 : Int) := by omega
                have HNW : Hd (∀ (W : World), RX w W S b s E3 e3 L' (some ⟨g, 0, none⟩) m1 c3 log3 s.latest s.hor ⟨d, u, cd, ck, cv⟩ → ∀ j v, (chsEnc (log3.drop 1))[j]? = some v → W.cell? ((⟨g, 2, none⟩ : Addr).add j) = some v) := hd (fun W hW j v hv => by
                  obtain ⟨g', hA, _, _, _, _, hcl, _⟩ := hW.rowG.at_ (by omega)
                  injection hA with hA
                  injection hA with hA
                  subst hA
                  rw [chs_drop, List.getElem?_drop] at hv
                  have := hcl (2 + j) v hv
                  rw [Addr.add_lit]
                  exact this)
                have HLN6 : Hd ((chsEnc (log3.drop 1)).length = (m1 - 1) * 2) := hd (by
                  rw [chsEnc_len, List.length_drop, ← HLG.o, List.length_append, HM.o]
                  have h1 := HM1.o
                  simp only [List.length_cons, List.length_nil]
                  omega)
                go_wp2_with (at_builtin; refine wpList_append_new rfl _ _ 110 rfl 114 i1 (.agg #[.int .i64 0, .string ⟨#[]⟩]) 2 24 Try.underlying110 hi1 hy0 hy1 hy2 rfl _ 0 0 [] rfl rfl (fun _ => ⟨rfl, rfl⟩) (fun b hb j u hu => by simp at hu) ⟨g, 2, none⟩ (m1 - 1) (c3 - 1) (chsEnc (log3.drop 1)) rfl HLN6.o (HNW.o _ (by with_reducible (repeat (first | exact HXj.o | refine RX.alloc ?_ _ | refine RX.drew ?_)))) (by omega) (by omega) hmm6 hby6 ?_; intro E4 e4 w4 hr4 hb4; have HPB := hd (RX.pairB (w := w) (S := S) (b := b) (s := s) (A := E3) (c := e3) (L := L') (A2 := some ⟨g, 0, none⟩) (n2 := m1) (c2 := c3) (log := log3) (la := s.latest) (ho := s.hor) (o := ⟨d, u, cd, ck, cv⟩) (by with_reducible (repeat (first | exact HXj.o | refine RX.alloc ?_ _ | refine RX.drew ?_))) hb4); have HR4 := hd hr4; have v3 := HPB.o.2.at_ 3 rfl; have vf3 := HPB.o.2.frozen 3; have v4 := HPB.o.2.at_ 4 rfl; have vf4 := HPB.o.2.frozen 4; clear hr4 hb4)
                go_ret
                refine ⟨rfl, HFIN.o _ E4 (m1 - 1) e4 (RX.set4 (la := s.latest) ?_ HSB.o HSW.o t)⟩
                rw [HP.o.1]
                have HR5 := HR4.o
                rw [Nat.zero_add] at HR5
                exact RX.anew HPB.o.1.1 HSB.o HSW.o HR5 HPB.o.1.2
            | false =>
              have hfull : decide (s.cap < (m1 : Int)) = false := by
                have h1 := HM1.o
                have h2 := HM.o
                have h3 := HOK.o.loglen
                unfold pushFull at hpf
                have h4 : ¬ (s.log.length : Int) = s.cap := by simpa using hpf
                rw [h2] at h3 h4
                simp only [decide_eq_false_iff_not]
                omega
              have HP : Hd (pushL s.cap s.log (t, u) = log3 ∧ s.hor = s.horizon) := hd ⟨by unfold pushL; rw [hpf]; simpa using HLG.o, by unfold Cs.hor; rw [hpf]; simp⟩
              clear hpf
              have y4 := HX3.o.blk.at_ 4 rfl
              have yf4 := HX3.o.blk.frozen 4
              go_quiet (fail)
              go_wp2
              go_ret
              refine ⟨rfl, HFIN.o _ A3 m1 c3 (RX.set4 (la := s.latest) ?_ HSB.o HSW.o t)⟩
              rw [HP.o.1, HP.o.2]
              exact HX3.o.drewN _

theorem rapply_calls (w : World) (S : Nat → Prop) (b : Nat) (s : Cs) (o : OpV) (t : Int) (h : RCol w S b s) (hok : s.Ok) (hSw : ∀ q, S q → q < w.heap.size) (hl : s.ml.length < 1000000) (hlg : s.log.length < 1000000) :
    Calls Try.prog 45 #[.pointer (some ⟨b, 0, none⟩), .agg (opEnc o).toArray, .int .i64 t] w fun e w' => e = .returned (.bool (s.step o t).1) ∧ RCol w' (Plus S w.heap.size) b (s.step o t).2 ∧ Chg S w w' := by
  unfold Cs.step
  cases hn : s.no o t with
  | true => exact (rapply_no w S b s o t h hok.rise (by omega) hn).mono fun e w' ⟨he, hb⟩ => ⟨he, (h.below hb).mono (fun _ h => .inl h), Chg.of_below _ hb⟩
  | false => exact rapply_yes w S b s o t h hok hSw hl hlg hn

end Go.Proofs.Ytbeckfnhgeclnaa
