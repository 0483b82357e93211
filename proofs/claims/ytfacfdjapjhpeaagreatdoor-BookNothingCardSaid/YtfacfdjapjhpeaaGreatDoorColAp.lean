/-
  The collection: Apply.
-/
import Derived.Test.YtfacfdjapjhpeaaGreatDoorGAF
import Derived.Test.YtfacfdjapjhpeaaGreatDoorGAG
import Derived.Deep.RegionWith
import Derived.Deep.RegionHeld3
import Derived.StillTailTactics
set_option linter.unusedVariables false
set_option linter.unusedSimpArgs false
namespace Go.Proofs.YtfacfdjapjhpeaaGreatDoor
open Go.RowKit Go.Lib

theorem col_len (w : World) (S : Nat → Prop) (b : Nat) (s : Cs) (h : ColR w S b s) (m : Nat) :
    Calls Tryz.prog 140 #[.pointer (some ⟨b, 0, none⟩)] (w.drewN m) fun e w' => e = .returned (.int .i64 (s.ml.length : Nat)) ∧ w.drewN m = w' :=
  clen_calls (w.drewN m) S b s (h.below (bdrewN (Below.refl _ _) m))

set_option maxRecDepth 100000 in
set_option maxHeartbeats 4000000 in
theorem apply_no (w : World) (S : Nat → Prop) (b : Nat) (s : Cs) (o : OpV) (t : Int) (h : ColR w S b s) (hl : s.ml.length ≤ 1000000) (hn : s.no o t = true) :
    Calls Tryz.prog 122 #[.pointer (some ⟨b, 0, none⟩), .agg (opEnc o).toArray, .int .i64 t] w fun e w' => e = .returned (.bool false) ∧ Below w.heap.size w w' := by
  have hb1 := h.below ((Below.refl _ w).alloc (Nat.le_refl _) (.cells (opEnc o).toArray 60))
  have hG := hd (cget_calls (w.alloc (.cells (opEnc o).toArray 60)) S b s o.uid hb1 hl)
  have H := hd hb1
  obtain ⟨d, u, c, ck, cv⟩ := o
  simp only [opEnc] at hG H ⊢
  have HN : Hd (t < s.latest ∨ (¬ t < s.latest ∧ d = true ∧ hasM s.ml u = false) ∨ (¬ t < s.latest ∧ d = false ∧ hasM s.ml u = false ∧ s.most ≤ (s.ml.length : Int))) := hd (by
    simp only [Cs.no] at hn
    cases d <;> cases hh : hasM s.ml u <;> simp [hh] at hn ⊢ <;> omega)
  generalize verM s.ml u = ver at *
  generalize txtM s.ml u = tx at *
  generalize hasM s.ml u = there at *
  clear hb1 h hn
  go_enter Tryz.func122, Tryz.ntmps122
  go_wp2_with fail
  refine hG.o.mono ?_
  rintro e w1 ⟨rfl, hbe⟩
  have hc := H.o.below hbe
  have HLEN := hd (fun m => col_len w1 S b s hc m)
  have hx := (Blk.new w 60 #[.bool d, .string (bs u), .string (bs c), .int .i64 ck, .int .i64 cv]).below hbe (by simp)
  have x0 := hx.at_ 0 rfl
  have x1 := hx.at_ 1 rfl
  have x2 := hx.at_ 2 rfl
  have HBE : Hd (Below w.heap.size w w1) := hd (((Below.refl _ w).alloc (Nat.le_refl _) _).trans (hbe.mono (by simp)))
  obtain ⟨mb, rb, S1, S2, hb, _⟩ := hc
  have c2 := hb.at_ 2 rfl
  have c4 := hb.at_ 4 rfl
  generalize s.ml.length = n at *
  generalize s.most = most at *
  generalize s.latest = latest at *
  clear hx hbe hb hG H
  rcases HN.o with h1 | ⟨h1, rfl, rfl⟩ | ⟨h1, rfl, rfl, h2⟩
  · have f1 : decide (t < latest) = true := by simpa using h1
    clear h1 HN
    go_wp2_with fail
    go_quiet (first | (go_at_call 140; exact q1 (HLEN.o _)) | (go_at_call 140; exact q2 (HLEN.o _)))
    go_wp2
    go_ret
    exact ⟨rfl, bdrewN HBE.o _⟩
  · have f1 : decide (t < latest) = false := by simpa using h1
    clear h1 HN
    go_wp2_with fail
    go_quiet (first | (go_at_call 140; exact q1 (HLEN.o _)) | (go_at_call 140; exact q2 (HLEN.o _)))
    go_wp2
    go_ret
    exact ⟨rfl, bdrewN HBE.o _⟩
  · have f1 : decide (t < latest) = false := by simpa using h1
    have f2 : decide (most ≤ (n : Int)) = true := by simpa using h2
    clear h1 HN
    go_wp2_with fail
    go_quiet (first | (go_at_call 140; exact q1 (HLEN.o _)) | (go_at_call 140; exact q2 (HLEN.o _)))
    go_wp2
    go_ret
    exact ⟨rfl, bdrewN HBE.o _⟩

/-- Behind the cards' change. -/
structure ApX (w wx : World) (S : Nat → Prop) (b mb rb : Nat) (S1 S2 : Nat → Prop) (s : Cs) (ml : ML Ce) (by_ : Int) (o : OpV) : Prop where
  blk : Blk wx b 159 #[.pointer (some ⟨mb, 0, none⟩), .pointer (some ⟨rb, 0, none⟩), .int .i64 s.most, .int .i64 by_, .int .i64 s.latest, .int .i64 s.horizon]
  om : OmEntCol wx S1 mb ml
  ring : RingR wx S2 rb s.cap s.log
  box : Blk wx w.heap.size 60 (opEnc o).toArray
  chg : Chg S w wx
  s1 : ∀ q, S1 q → (S q ∨ w.heap.size ≤ q) ∧ q ≠ b ∧ ¬ S2 q ∧ q < wx.heap.size
  s2 : ∀ q, S2 q → S q ∧ q ≠ b ∧ q ≠ w.heap.size ∧ q < w.heap.size
/-- At a call within: the blocks of the collection, of the write. -/
structure ApY (w wx : World) (S : Nat → Prop) (b mb rb : Nat) (S1 S2 : Nat → Prop) (s : Cs) (by_ : Int) (o : OpV) : Prop where
  blk : Blk wx b 159 #[.pointer (some ⟨mb, 0, none⟩), .pointer (some ⟨rb, 0, none⟩), .int .i64 s.most, .int .i64 by_, .int .i64 s.latest, .int .i64 s.horizon]
  om : OmEntCol wx S1 mb s.ml
  ring : RingR wx S2 rb s.cap s.log
  box : Blk wx w.heap.size 60 (opEnc o).toArray
  chg : Chg S w wx
  s1 : ∀ q, S1 q → S q ∧ q ≠ b ∧ ¬ S2 q ∧ q < w.heap.size
  s2 : ∀ q, S2 q → S q ∧ q ≠ b ∧ q ≠ w.heap.size ∧ q < w.heap.size
theorem ApY.upd {w wx w2 : World} {S : Nat → Prop} {b mb rb : Nat} {S1 S2 : Nat → Prop} {s : Cs} {by_ : Int} {o : OpV} {ml : ML Ce} (h : ApY w wx S b mb rb S1 S2 s by_ o) (hO : OmEntCol w2 (Plus S1 wx.heap.size) mb ml) (hc : Chg S1 wx w2) :
    ApX w w2 S b mb rb (fun q => Plus S1 wx.heap.size q ∧ q < w2.heap.size) S2 s ml by_ o := by
  have hs := h.chg.size
  have hs2 := hc.size
  refine ⟨h.blk.chg hc (fun hq => (h.s1 _ hq).2.1 rfl), hO.shrink, h.ring.chg hc (fun q hq hq1 => (h.s1 q hq1).2.2.1 hq), h.box.chg hc (fun hq => by have := (h.s1 _ hq).2.2.2; omega), h.chg.trans hc (fun q hq => .inl (h.s1 q hq).1), fun q hq => ?_, h.s2⟩
  obtain ⟨hq | hq, hq2⟩ := hq
  · obtain ⟨k1, k2, k3, k4⟩ := h.s1 q hq
    exact ⟨.inl k1, k2, k3, hq2⟩
  · have hbl := h.blk.lt
    have hq' : wx.heap.size ≤ q := hq
    exact ⟨.inr (by omega), by omega, fun h2 => by have := (h.s2 q h2).2.2.2; omega, hq2⟩
theorem ApY.drew {w wx : World} {S : Nat → Prop} {b mb rb : Nat} {S1 S2 : Nat → Prop} {s : Cs} {by_ : Int} {o : OpV} (h : ApY w wx S b mb rb S1 S2 s by_ o) : ApY w wx.drew S b mb rb S1 S2 s by_ o :=
  ⟨h.blk.drew, h.om.drew, h.ring.below (bdrewN (Below.refl _ wx) 1), h.box.drew, h.chg.drew, h.s1, h.s2⟩
theorem ApY.drewN {w wx : World} {S : Nat → Prop} {b mb rb : Nat} {S1 S2 : Nat → Prop} {s : Cs} {by_ : Int} {o : OpV} (h : ApY w wx S b mb rb S1 S2 s by_ o) (k : Nat) : ApY w (wx.drewN k) S b mb rb S1 S2 s by_ o :=
  ⟨h.blk.drewN k, h.om.below (bdrewN (Below.refl _ wx) k), h.ring.below (bdrewN (Below.refl _ wx) k), h.box.drewN k, h.chg.drewN k, h.s1, h.s2⟩
theorem ApY.set3 {w wx : World} {S : Nat → Prop} {b mb rb : Nat} {S1 S2 : Nat → Prop} {s : Cs} {by_ : Int} {o : OpV} (h : ApY w wx S b mb rb S1 S2 s by_ o) (hS : S b) (v : Int) : ApY w (wx.setCell ⟨b, 3, none⟩ (.int .i64 v)) S b mb rb S1 S2 s v o := by
  have hc : Chg (One b) wx (wx.setCell ⟨b, 3, none⟩ (.int .i64 v)) := Chg.setCell (S := One b) (Chg.refl _ _) (p := ⟨b, 3, none⟩) (.inl rfl) _
  exact ⟨h.blk.set_ 3 _, h.om.chg hc (fun q hq h1 => (h.s1 q hq).2.1 h1), h.ring.chg hc (fun q hq h1 => (h.s2 q hq).2.1 h1), h.box.chg hc (fun h1 => h.box.ne_ h.blk (by decide) h1), h.chg.setCell (.inl hS) _, h.s1, h.s2⟩
theorem ApX.set3 {w wx : World} {S : Nat → Prop} {b mb rb : Nat} {S1 S2 : Nat → Prop} {s : Cs} {ml : ML Ce} {by_ : Int} {o : OpV} (h : ApX w wx S b mb rb S1 S2 s ml by_ o) (hS : S b) (v : Int) : ApX w (wx.setCell ⟨b, 3, none⟩ (.int .i64 v)) S b mb rb S1 S2 s ml v o := by
  have hc : Chg (One b) wx (wx.setCell ⟨b, 3, none⟩ (.int .i64 v)) := Chg.setCell (S := One b) (Chg.refl _ _) (p := ⟨b, 3, none⟩) (.inl rfl) _
  exact ⟨h.blk.set_ 3 _, h.om.chg hc (fun q hq h1 => (h.s1 q hq).2.1 h1), h.ring.chg hc (fun q hq h1 => (h.s2 q hq).2.1 h1), h.box.chg hc (fun h1 => h.box.ne_ h.blk (by decide) h1), h.chg.setCell (.inl hS) _, fun q hq => by rw [size_setCell]; exact h.s1 q hq, h.s2⟩
theorem ApX.drew {w wx : World} {S : Nat → Prop} {b mb rb : Nat} {S1 S2 : Nat → Prop} {s : Cs} {ml : ML Ce} {by_ : Int} {o : OpV} (h : ApX w wx S b mb rb S1 S2 s ml by_ o) : ApX w wx.drew S b mb rb S1 S2 s ml by_ o :=
  ⟨h.blk.drew, h.om.drew, h.ring.below (bdrewN (Below.refl _ wx) 1), h.box.drew, h.chg.drew, h.s1, h.s2⟩
/-- Behind Push. -/
structure ApZ (w wx : World) (S : Nat → Prop) (b mb rb : Nat) (S1 S2 : Nat → Prop) (s : Cs) (ml : ML Ce) (log : List Ch) (la ho : Int) : Prop where
  blk : Blk wx b 159 #[.pointer (some ⟨mb, 0, none⟩), .pointer (some ⟨rb, 0, none⟩), .int .i64 s.most, .int .i64 (bytesM ml), .int .i64 la, .int .i64 ho]
  om : OmEntCol wx S1 mb ml
  ring : RingR wx S2 rb s.cap log
  chg : Chg S w wx
  s1 : ∀ q, S1 q → (S q ∨ w.heap.size ≤ q) ∧ q ≠ b ∧ ¬ S2 q ∧ q < wx.heap.size
  s2 : ∀ q, S2 q → (S q ∨ w.heap.size ≤ q) ∧ q ≠ b ∧ q < wx.heap.size
theorem ApX.push {w wx w2 : World} {S : Nat → Prop} {b mb rb : Nat} {S1 S2 : Nat → Prop} {s : Cs} {ml : ML Ce} {o : OpV} {log : List Ch} (h : ApX w wx S b mb rb S1 S2 s ml (bytesM ml) o) (hR : RingR w2 (Plus S2 wx.heap.size) rb s.cap log) (hc : Chg S2 wx w2) :
    ApZ w w2 S b mb rb S1 (fun q => Plus S2 wx.heap.size q ∧ q < w2.heap.size) s ml log s.latest s.horizon := by
  have hs := h.chg.size
  have hs2 := hc.size
  refine ⟨h.blk.chg hc (fun hq => (h.s2 _ hq).2.1 rfl), h.om.chg hc (fun q hq hq1 => (h.s1 q hq).2.2.1 hq1), hR.shrink, h.chg.trans hc (fun q hq => .inl (h.s2 q hq).1), fun q hq => ?_, fun q hq => ?_⟩
  · obtain ⟨k1, k2, k3, k4⟩ := h.s1 q hq
    refine ⟨k1, k2, fun ⟨hq2, _⟩ => ?_, by omega⟩
    rcases hq2 with hq2 | hq2
    · exact k3 hq2
    · have hq2 : wx.heap.size ≤ q := hq2
      omega
  · obtain ⟨hq | hq, hq2⟩ := hq
    · obtain ⟨k1, k2, k3, k4⟩ := h.s2 q hq
      exact ⟨.inl k1, k2, hq2⟩
    · have hbl := h.blk.lt
      have hq : wx.heap.size ≤ q := hq
      exact ⟨.inr (by omega), by omega, hq2⟩
theorem ApZ.alloc {w wx : World} {S : Nat → Prop} {b mb rb : Nat} {S1 S2 : Nat → Prop} {s : Cs} {ml : ML Ce} {log : List Ch} {la ho : Int} (h : ApZ w wx S b mb rb S1 S2 s ml log la ho) (o : Obj) : ApZ w (wx.alloc o) S b mb rb S1 S2 s ml log la ho :=
  ⟨h.blk.alloc o, h.om.below ((Below.refl _ wx).alloc (Nat.le_refl _) o), h.ring.below ((Below.refl _ wx).alloc (Nat.le_refl _) o), h.chg.alloc o, fun q hq => by have := h.s1 q hq; exact ⟨this.1, this.2.1, this.2.2.1, by simp; omega⟩, fun q hq => by have := h.s2 q hq; exact ⟨this.1, this.2.1, by simp; omega⟩⟩
theorem ApZ.drew {w wx : World} {S : Nat → Prop} {b mb rb : Nat} {S1 S2 : Nat → Prop} {s : Cs} {ml : ML Ce} {log : List Ch} {la ho : Int} (h : ApZ w wx S b mb rb S1 S2 s ml log la ho) : ApZ w wx.drew S b mb rb S1 S2 s ml log la ho :=
  ⟨h.blk.drew, h.om.drew, h.ring.below (bdrewN (Below.refl _ wx) 1), h.chg.drew, h.s1, h.s2⟩
theorem ApZ.far {w wx : World} {S : Nat → Prop} {b mb rb g : Nat} {S1 S2 : Nat → Prop} {s : Cs} {ml : ML Ce} {log : List Ch} {la ho : Int} (h : ApZ w wx S b mb rb S1 S2 s ml log la ho) (hg : w.heap.size ≤ g) (hb : g ≠ b) (h1 : ¬ S1 g) (h2 : ¬ S2 g) (i : Nat) (v : Value) : ApZ w (wx.setCell ⟨g, i, none⟩ v) S b mb rb S1 S2 s ml log la ho := by
  have hc : Chg (One g) wx (wx.setCell ⟨g, i, none⟩ v) := Chg.setCell (S := One g) (Chg.refl _ _) (p := ⟨g, i, none⟩) (.inl rfl) _
  exact ⟨h.blk.chg hc (fun e => hb e.symm), h.om.chg hc (fun q hq e => h1 (e ▸ hq)), h.ring.chg hc (fun q hq e => h2 (e ▸ hq)), h.chg.setCell (.inr hg) _, fun q hq => by rw [size_setCell]; exact h.s1 q hq, fun q hq => by rw [size_setCell]; exact h.s2 q hq⟩
theorem ApX.alloc {w wx : World} {S : Nat → Prop} {b mb rb : Nat} {S1 S2 : Nat → Prop} {s : Cs} {ml : ML Ce} {by_ : Int} {o : OpV} (h : ApX w wx S b mb rb S1 S2 s ml by_ o) (ob : Obj) : ApX w (wx.alloc ob) S b mb rb S1 S2 s ml by_ o :=
  ⟨h.blk.alloc ob, h.om.below ((Below.refl _ wx).alloc (Nat.le_refl _) ob), h.ring.below ((Below.refl _ wx).alloc (Nat.le_refl _) ob), h.box.alloc ob, h.chg.alloc ob, fun q hq => by have := h.s1 q hq; exact ⟨this.1, this.2.1, this.2.2.1, by simp; omega⟩, h.s2⟩
/-- What stands behind Push's statement: the old one's block g. -/
def ApOld (w wx : World) (S : Nat → Prop) (b mb rb : Nat) (s : Cs) (ml : ML Ce) (log : List Ch) (old : Ch) (g : Nat) : Prop :=
  ∃ S1 S2, ApZ w wx S b mb rb S1 S2 s ml log s.latest s.horizon ∧ wx.cell? ⟨g, 0, none⟩ = some (.int .i64 old.1) ∧ g ≠ b
theorem push_cells {w wx W w3 : World} {S : Nat → Prop} {b mb rb : Nat} {S1 S2 : Nat → Prop} {s : Cs} {ml : ML Ce} {by_ : Int} {o : OpV} (h : ApX w wx S b mb rb S1 S2 s ml by_ o) (hW : Blk W b 159 #[.pointer (some ⟨mb, 0, none⟩), .pointer (some ⟨rb, 0, none⟩), .int .i64 s.most, .int .i64 by_, .int .i64 s.latest, .int .i64 s.horizon]) (hX : Blk W w.heap.size 60 (opEnc o).toArray) (hc : Chg S2 W w3) :
    w3.cell? ⟨b, 1, none⟩ = some (.pointer (some ⟨rb, 0, none⟩)) ∧ w3.cell? ⟨w.heap.size, 1, none⟩ = some (.string (bs o.uid)) :=
  ⟨(hW.chg hc (fun hq => (h.s2 _ hq).2.1 rfl)).at_ 1 rfl, (hX.chg hc (fun hq => (h.s2 _ hq).2.2.1 rfl)).at_ 1 rfl⟩
/-- The old one's block was made ahead of Push. -/
theorem old_before {w wx w3 : World} {S : Nat → Prop} {b mb rb : Nat} {S1 S2 : Nat → Prop} {s : Cs} {ml : ML Ce} {o : OpV} {log : List Ch} {old : Ch} (h : ApX w wx S b mb rb S1 S2 s ml (bytesM ml) o) (hR : RingR w3 (Plus S2 ((wx.alloc (.cells #[.int .i64 0, .string ⟨#[]⟩] 188)).drew).heap.size) rb s.cap log) (hc : Chg S2 ((wx.alloc (.cells #[.int .i64 0, .string ⟨#[]⟩] 188)).drew) w3) :
    Blk w3 wx.heap.size 188 #[.int .i64 0, .string ⟨#[]⟩] ∧ ApOld w ((w3.setCell ⟨wx.heap.size, 0, none⟩ (.int .i64 old.1)).setCell ⟨wx.heap.size, 1, none⟩ (.string (bs old.2))) S b mb rb s ml log old wx.heap.size := by
  have hx := (h.alloc (.cells #[.int .i64 0, .string ⟨#[]⟩] 188)).drew
  have hz := hx.push hR hc
  have hbk : Blk w3 wx.heap.size 188 #[.int .i64 0, .string ⟨#[]⟩] := (Blk.new wx 188 #[.int .i64 0, .string ⟨#[]⟩]).drew.chg hc (fun hq => by have := (h.s2 _ hq).2.2.2; have := h.chg.size; omega)
  have hsz := h.chg.size
  have hbl := h.blk.lt
  have n0 : wx.heap.size ≠ b := by omega
  have n1 : ¬ S1 wx.heap.size := fun hq => by have := (h.s1 _ hq).2.2.2; omega
  have n2 : ¬ (Plus S2 ((wx.alloc (.cells #[.int .i64 0, .string ⟨#[]⟩] 188)).drew).heap.size wx.heap.size ∧ wx.heap.size < w3.heap.size) := fun ⟨hq, _⟩ => by
    rcases hq with hq | hq
    · have := (h.s2 _ hq).2.2.2; omega
    · have hq : (wx.alloc (.cells #[.int .i64 0, .string ⟨#[]⟩] 188)).heap.size ≤ wx.heap.size := hq
      simp at hq
      omega
  refine ⟨hbk, _, _, (hz.far hsz n0 n1 n2 0 _).far hsz n0 n1 n2 1 _, ?_, n0⟩
  exact ((hbk.set_ 0 (.int .i64 old.1)).set_ 1 (.string (bs old.2))).at_ 0 rfl
/-- It is made behind it. -/
theorem old_behind {w wx w3 : World} {S : Nat → Prop} {b mb rb : Nat} {S1 S2 : Nat → Prop} {s : Cs} {ml : ML Ce} {o : OpV} {log : List Ch} {old : Ch} (h : ApX w wx S b mb rb S1 S2 s ml (bytesM ml) o) (hR : RingR w3 (Plus S2 wx.drew.heap.size) rb s.cap log) (hc : Chg S2 wx.drew w3) :
    ApOld w (w3.alloc (.cells #[.int .i64 old.1, .string (bs old.2)] 188)) S b mb rb s ml log old w3.heap.size := by
  have hz := h.drew.push hR hc
  have hbl := hz.blk.lt
  exact ⟨_, _, hz.alloc _, (Blk.new w3 188 _).at_ 0 rfl, by omega⟩
theorem ApZ.keep {w wx : World} {S : Nat → Prop} {b mb rb : Nat} {S1 S2 : Nat → Prop} {s : Cs} {ml : ML Ce} {log : List Ch} {la ho : Int} (h : ApZ w wx S b mb rb S1 S2 s ml log la ho) (hS : S b) (i : Nat) (v : Value) :
    OmEntCol (wx.setCell ⟨b, i, none⟩ v) S1 mb ml ∧ RingR (wx.setCell ⟨b, i, none⟩ v) S2 rb s.cap log ∧ Chg S w (wx.setCell ⟨b, i, none⟩ v) := by
  have hc : Chg (One b) wx (wx.setCell ⟨b, i, none⟩ v) := Chg.setCell (S := One b) (Chg.refl _ _) (p := ⟨b, i, none⟩) (.inl rfl) _
  exact ⟨h.om.chg hc (fun q hq h1 => (h.s1 q hq).2.1 h1), h.ring.chg hc (fun q hq h1 => (h.s2 q hq).2.1 h1), h.chg.setCell (.inl hS) _⟩
theorem ApZ.set5 {w wx : World} {S : Nat → Prop} {b mb rb : Nat} {S1 S2 : Nat → Prop} {s : Cs} {ml : ML Ce} {log : List Ch} {la ho : Int} (h : ApZ w wx S b mb rb S1 S2 s ml log la ho) (hS : S b) (v : Int) : ApZ w (wx.setCell ⟨b, 5, none⟩ (.int .i64 v)) S b mb rb S1 S2 s ml log la v := by
  obtain ⟨k1, k2, k3⟩ := h.keep hS 5 (.int .i64 v)
  exact ⟨h.blk.set_ 5 _, k1, k2, k3, fun q hq => by rw [size_setCell]; exact h.s1 q hq, fun q hq => by rw [size_setCell]; exact h.s2 q hq⟩
theorem ApZ.set4 {w wx : World} {S : Nat → Prop} {b mb rb : Nat} {S1 S2 : Nat → Prop} {s : Cs} {ml : ML Ce} {log : List Ch} {la ho : Int} (h : ApZ w wx S b mb rb S1 S2 s ml log la ho) (hS : S b) (v : Int) : ApZ w (wx.setCell ⟨b, 4, none⟩ (.int .i64 v)) S b mb rb S1 S2 s ml log v ho := by
  obtain ⟨k1, k2, k3⟩ := h.keep hS 4 (.int .i64 v)
  exact ⟨h.blk.set_ 4 _, k1, k2, k3, fun q hq => by rw [size_setCell]; exact h.s1 q hq, fun q hq => by rw [size_setCell]; exact h.s2 q hq⟩
theorem ApZ.col {w wx : World} {S : Nat → Prop} {b mb rb : Nat} {S1 S2 : Nat → Prop} {s : Cs} {o : OpV} {t : Int} (h : ApZ w wx S b mb rb S1 S2 s (s.mls o t) (pushL s.cap s.log (t, o.uid)) t s.hor) (hS : S b) : ColR wx (Plus S w.heap.size) b (s.app o t) :=
  ⟨mb, rb, S1, S2, h.blk, h.om, h.ring, .inl hS, h.s1, h.s2⟩

theorem pushed (w : World) (S : Nat → Prop) (b : Nat) (cap : Int) (l : List Ch) (x : Ch) (h : RingR w S b cap l) (h1 : 1 ≤ cap) (hl : (l.length : Int) ≤ cap) (hb : l.length ≤ 1000000) :
    Calls Tryz.prog 146 #[.pointer (some ⟨b, 0, none⟩), .agg (chEnc x).toArray] w fun e w' => e = .returned (.tuple #[.agg (chEnc (if pushFull cap l = true then l.headD (0, []) else (0, []))).toArray, .bool (pushFull cap l)]) ∧ RingR w' (Plus S w.heap.size) b cap (pushL cap l x) ∧ Chg S w w' := by
  by_cases hf : (l.length : Int) = cap
  · match l, h, hf, hl, hb with
    | [], _, hf, _, _ => simp at hf; omega
    | y :: l, h, hf, hl, hb =>
      have e1 : pushFull cap (y :: l) = true := by simpa [pushFull] using hf
      rw [pushL, e1]
      exact push_full w S b cap l x y h hf hb
  · have e1 : pushFull cap l = false := by simpa [pushFull] using hf
    rw [pushL, e1]
    exact push_room w S b cap l x h hf hb

set_option maxRecDepth 100000 in
set_option maxHeartbeats 8000000 in
theorem apply_yes (w : World) (S : Nat → Prop) (b : Nat) (s : Cs) (o : OpV) (t : Int) (h : ColR w S b s) (hok : s.Ok) (hSw : ∀ q, S q → q < w.heap.size) (hl : s.ml.length < 1000000) (hlg : s.log.length < 1000000) (hby : bytesM s.ml ≤ 1000000000000) (hcl : o.card.length ≤ 1000000000000) (hn : s.no o t = false) :
    Calls Tryz.prog 122 #[.pointer (some ⟨b, 0, none⟩), .agg (opEnc o).toArray, .int .i64 t] w fun e w' => e = .returned (.bool true) ∧ ColR w' (Plus S w.heap.size) b (s.app o t) ∧ Chg S w w' := by
  have hb1 := h.below ((Below.refl _ w).alloc (Nat.le_refl _) (.cells (opEnc o).toArray 60))
  have hG := hd (cget_calls (w.alloc (.cells (opEnc o).toArray 60)) S b s o.uid hb1 (by omega))
  obtain ⟨mb, rb, S1, S2, hb, hO, hR, hS, hS1, hS2⟩ := h
  have hbl := hb.lt
  have HY : Hd (ApY w (w.alloc (.cells (opEnc o).toArray 60)) S b mb rb S1 S2 s (bytesM s.ml) o) := hd ⟨hb.alloc _, hO.below ((Below.refl _ w).alloc (Nat.le_refl _) _), hR.below ((Below.refl _ w).alloc (Nat.le_refl _) _), Blk.new _ _ _, (Chg.refl S w).alloc _, hS1, fun q hq => ⟨(hS2 q hq).1, (hS2 q hq).2.1, by have := (hS2 q hq).2.2; omega, (hS2 q hq).2.2⟩⟩
  have H := hd hb1
  have HOK := hd hok
  have hbp := bytesM_put o.uid ⟨t, o.card⟩ hok.rise
  have hbd := bytesM_del o.uid hok.rise
  have htl := txtM_le (ml := s.ml) o.uid
  have HMLP := hd (fun w1 T (k : OmEntCol w1 T mb s.ml) (kT : ∀ q, T q → q < w1.heap.size) => omputEntCol_calls w1 T mb s.ml o.uid ⟨t, o.card⟩ k (by omega) kT)
  have HMLD := hd (fun w1 T (k : OmEntCol w1 T mb s.ml) => omdelEntCol_calls w1 T mb s.ml o.uid k (by omega))
  have HPU := hd (fun w1 T (k : RingR w1 T rb s.cap s.log) => pushed w1 T rb s.cap s.log (t, o.uid) k hok.cap1 hok.loglen (by omega))
  clear hb hO hR hS1 hS2 hb1 hok
  obtain ⟨d, u, c, ck, cv⟩ := o
  simp only [opEnc] at hG ⊢
  have HN : Hd (¬ t < s.latest ∧ ((d = true ∧ hasM s.ml u = true) ∨ (d = false ∧ hasM s.ml u = true) ∨ (d = false ∧ hasM s.ml u = false ∧ ¬ s.most ≤ (s.ml.length : Int)))) := hd (by
    simp only [Cs.no] at hn
    cases d <;> cases hh : hasM s.ml u <;> simp [hh] at hn ⊢ <;> omega)
  simp only at hbp hbd htl HMLP HMLD HPU hcl
  obtain ⟨ml', hml'⟩ : ∃ m, s.mls ⟨d, u, c, ck, cv⟩ t = m := ⟨_, rfl⟩
  have HML := hd hml'
  obtain ⟨tx, htx⟩ : ∃ x, txtM s.ml u = x := ⟨_, rfl⟩
  rw [htx] at hbp hbd htl hG
  obtain ⟨ver, hver⟩ : ∃ x, verM s.ml u = x := ⟨_, rfl⟩
  rw [hver] at hG
  obtain ⟨there, hth⟩ : ∃ x, hasM s.ml u = x := ⟨_, rfl⟩
  rw [hth] at hG HN HMLP HMLD
  have HTH := hd hth
  obtain ⟨n, hsz⟩ : ∃ n, (bs tx).size = n := ⟨_, rfl⟩
  obtain ⟨m, hcz⟩ : ∃ n, (bs c).size = n := ⟨_, rfl⟩
  have htn : tx.length = n := by rw [← bs_size]; exact hsz
  have hcm : c.length = m := by rw [← bs_size]; exact hcz
  rw [htn] at hbp hbd htl
  rw [hcm] at hbp hcl
  obtain ⟨by0, hby0⟩ : ∃ x, bytesM s.ml = x := ⟨_, rfl⟩
  rw [hby0] at hbp hbd htl hby HY
  have HBP := hd hbp
  have HBD := hd hbd
  have hSb := hd hS
  clear hml' htx hver hth htn hcm hby0 hbp hbd hn hS
  go_enter Tryz.func122, Tryz.ntmps122
  go_wp2_with fail
  refine hG.o.mono ?_
  rintro e w1 ⟨rfl, hbe⟩
  have hc := H.o.below hbe
  have HLEN := hd (fun k => col_len w1 S b s hc k)
  have HY1 : Hd (ApY w w1 S b mb rb S1 S2 s by0 ⟨d, u, c, ck, cv⟩) := hd ⟨HY.o.blk.below hbe HY.o.blk.lt, HY.o.om.below hbe, HY.o.ring.below hbe, HY.o.box.below hbe HY.o.box.lt, HY.o.chg.then_below hbe, HY.o.s1, HY.o.s2⟩
  have x0 : w1.cell? ⟨w.heap.size, 0, none⟩ = some (.bool d) := HY1.o.box.at_ 0 rfl
  have x1 : w1.cell? ⟨w.heap.size, 1, none⟩ = some (.string (bs u)) := HY1.o.box.at_ 1 rfl
  have x2 : w1.cell? ⟨w.heap.size, 2, none⟩ = some (.string (bs c)) := HY1.o.box.at_ 2 rfl
  have c0 := HY1.o.blk.at_ 0 rfl
  have c2 := HY1.o.blk.at_ 2 rfl
  have c3 := HY1.o.blk.at_ 3 rfl
  have c4 := HY1.o.blk.at_ 4 rfl
  have cf3 := HY1.o.blk.frozen 3
  have hwb : w.heap.size ≠ b := by omega
  generalize s.ml.length = nl at *
  clear hbe hc HY hG H
  go_wp2_with fail
  go_cut [51] from 20 to 51 (fun s51 wx => s51 = .bool false ∧ Hd (∃ q, wx = w1.drewN q))
  case first =>
    have h1 := HN.o.1
    have f1 : decide (t < s.latest) = false := by simpa using h1
    clear h1
    rcases HN.o.2 with ⟨rfl, rfl⟩ | ⟨rfl, rfl⟩ | ⟨rfl, rfl, h2⟩
    · go_quiet (first | (go_at_call 140; exact q1 (HLEN.o _)) | (go_at_call 140; exact q2 (HLEN.o _)))
      go_wp2_with fail
      go_meet
      exact ⟨rfl, hd ⟨_, rfl⟩⟩
    · go_quiet (first | (go_at_call 140; exact q1 (HLEN.o _)) | (go_at_call 140; exact q2 (HLEN.o _)))
      go_wp2_with fail
      go_meet
      exact ⟨rfl, hd ⟨_, rfl⟩⟩
    · have f2 : decide (s.most ≤ (nl : Int)) = false := by simpa using h2
      clear h2
      go_quiet (first | (go_at_call 140; exact q1 (HLEN.o _)) | (go_at_call 140; exact q2 (HLEN.o _)))
      go_wp2_with fail
      go_meet
      exact ⟨rfl, hd ⟨_, rfl⟩⟩
  case rest =>
    obtain ⟨rfl, HQ⟩ := hcut
    have HYc : Hd (ApY w wc S b mb rb S1 S2 s by0 ⟨d, u, c, ck, cv⟩) := hd (by obtain ⟨q, rfl⟩ := HQ.o; exact HY1.o.drewN q)
    clear x0 x1 x2 c0 c2 c3 c4 cf3 HY1 HQ HLEN HN
    have x0 : wc.cell? ⟨w.heap.size, 0, none⟩ = some (.bool d) := HYc.o.box.at_ 0 rfl
    have x1 : wc.cell? ⟨w.heap.size, 1, none⟩ = some (.string (bs u)) := HYc.o.box.at_ 1 rfl
    have x2 : wc.cell? ⟨w.heap.size, 2, none⟩ = some (.string (bs c)) := HYc.o.box.at_ 2 rfl
    have c0 := HYc.o.blk.at_ 0 rfl
    have c3 := HYc.o.blk.at_ 3 rfl
    have cf3 := HYc.o.blk.frozen 3
    cases d with
    | true =>
      have HMD : Hd (ml' = delM s.ml u) := hd (by rw [← HML.o]; simp [Cs.mls])
      go_wp2_with fail
      obtain ⟨wa, hwa⟩ : ∃ wa, wa = wc.setCell ⟨b, 3, none⟩ (.int .i64 (by0 - (n : Int))) := ⟨_, rfl⟩
      have HYa : Hd (ApY w wa S b mb rb S1 S2 s (by0 - (n : Int)) ⟨true, u, c, ck, cv⟩) := hd (by rw [hwa]; exact HYc.o.set3 hSb.o _)
      have y0 := HYa.o.blk.at_ 0 rfl
      have y1 : wa.cell? ⟨w.heap.size, 1, none⟩ = some (.string (bs u)) := HYa.o.box.at_ 1 rfl
      rw [← hwa]
      clear hwa x0 x1 x2 c0 c3 cf3 HYc
      go_still_tail 6, (by kernel_rfl)
      go_wp2_with fail
      refine (HMLD.o _ _ HYa.o.drew.om).mono ?_
      rintro e w2 ⟨rfl, hO2, hc2⟩
      have HXX : Hd (ApX w w2 S b mb rb _ S2 s ml' (bytesM ml') ⟨true, u, c, ck, cv⟩) := hd (by
        have := HYa.o.drew.upd hO2 hc2
        rw [← HMD.o] at this
        rw [HMD.o, HBD.o, ← HMD.o]
        exact this)
      clear hO2 hc2
      obtain ⟨wy, hwy⟩ : ∃ wy, wy = w2 := ⟨_, rfl⟩
      have HYY : Hd (ApX w wy S b mb rb _ S2 s ml' (bytesM ml') ⟨true, u, c, ck, cv⟩) := hd (hwy ▸ HXX.o)
      have y1 := HYY.o.blk.at_ 1 rfl
      have y4 := HYY.o.blk.at_ 4 rfl
      have z1 : wy.cell? ⟨w.heap.size, 1, none⟩ = some (.string (bs u)) := HYY.o.box.at_ 1 rfl
      have yl := HYY.o.blk.lt
      have zl := HYY.o.box.lt
      go_wp2_with fail
      rw [← hwy]
      clear hwy HXX HMLD HMLP HBP HBD hSw
      cases hpf : pushFull s.cap s.log with
      | true =>
        have HHO : Hd (s.hor = max s.horizon (s.log.headD (0, [])).1) := hd (by unfold Cs.hor; rw [hpf]; rfl)
        have PA := hd (HPU.o _ _ ((HYY.o.alloc (.cells #[.int .i64 0, .string ⟨#[]⟩] 188)).drew.ring))
        have PB := hd (HPU.o _ _ (HYY.o.drew.ring))
        rw [hpf] at PA PB
        simp only [if_true] at PA PB
        generalize s.log.headD (0, []) = old at *
        obtain ⟨ot, ou⟩ := old
        simp only [chEnc] at PA PB
        clear hpf
        go_cut [10, 11] from 91 to 102 (fun s10 s11 wx => ∃ g, s10 = .pointer (some ⟨g, 0, none⟩) ∧ s11 = .bool true ∧ Hd (ApOld w wx S b mb rb s ml' (pushL s.cap s.log (t, u)) (ot, ou) g))
        case first =>
          have kb := World.new_ne wy ⟨b, 1, none⟩ y1
          have kz := World.new_ne wy ⟨w.heap.size, 1, none⟩ z1
          go_region_held3 (fun w' => w'.cell? ⟨b, 1, none⟩ = some (.pointer (some ⟨rb, 0, none⟩)) ∧ w'.cell? ⟨w.heap.size, 1, none⟩ = some (.string (bs u))) (first | go_keep | (with_reducible exact ⟨k1, k2⟩)) (first
            | (go_at_call 146; with_reducible refine PB.o.mono ?_; rintro e w3 ⟨rfl, hR2, hc2⟩; have HZ := hd (old_behind (old := (ot, ou)) HYY.o hR2 hc2); have hk := push_cells HYY.o HYY.o.drew.blk HYY.o.drew.box hc2; have k1 := hk.1; have k2 := hk.2; simp only at k2; clear hk; clear hR2 hc2)
            | (go_at_call 146; with_reducible refine PA.o.mono ?_; rintro e w3 ⟨rfl, hR2, hc2⟩; have hZ := old_before (old := (ot, ou)) HYY.o hR2 hc2; have HZ := hd hZ.2; have g0 := hZ.1.at_ 0 rfl; have g1 := hZ.1.at_ 1 rfl; have gf0 := hZ.1.frozen 0; have gf1 := hZ.1.frozen 1; have hk := push_cells HYY.o (HYY.o.alloc (.cells #[.int .i64 0, .string ⟨#[]⟩] 188)).drew.blk (HYY.o.alloc (.cells #[.int .i64 0, .string ⟨#[]⟩] 188)).drew.box hc2; have k1 := hk.1; have k2 := hk.2; simp only at k2; clear hk; clear hR2 hc2 hZ))
          all_goals
            go_wp2_with fail
            go_meet
            exact ⟨_, rfl, rfl, HZ⟩
        case rest =>
          obtain ⟨g, rfl, rfl, HZ⟩ := hcut
          have hZ := HZ.o
          obtain ⟨T1, T2, hZ1, g0, hgb⟩ := hZ
          have HZ1 := hd hZ1
          have y5 := hZ1.blk.at_ 5 rfl
          have yf5 := hZ1.blk.frozen 5
          have y4 := hZ1.blk.at_ 4 rfl
          have yf4 := hZ1.blk.frozen 4
          simp only at g0
          have FIN : Hd (∀ (W : World) (X : Int), s.hor = X → ApZ w W S b mb rb T1 T2 s ml' (pushL s.cap s.log (t, u)) t X → ColR W (Plus S w.heap.size) b (s.app ⟨true, u, c, ck, cv⟩ t) ∧ Chg S w W) := hd (fun W X hX hz => by
            subst hX
            rw [← HML.o] at hz
            exact ⟨hz.col (o := ⟨true, u, c, ck, cv⟩) hSb.o, hz.chg⟩)
          clear hZ1 HZ
          go_wp2_with fail
          go_region
          all_goals
            go_wp2
            all_goals
              go_ret
              refine ⟨rfl, FIN.o _ _ ?_ ((HZ1.o.set5 hSb.o _).set4 hSb.o _).drew⟩
              have hho := HHO.o
              omega
      | false =>
        have HHO : Hd (s.hor = s.horizon) := hd (by unfold Cs.hor; rw [hpf]; rfl)
        have PA := hd (HPU.o _ _ ((HYY.o.alloc (.cells #[.int .i64 0, .string ⟨#[]⟩] 188)).drew.ring))
        have PB := hd (HPU.o _ _ (HYY.o.drew.ring))
        rw [hpf] at PA PB
        simp only [Bool.false_eq_true, if_false] at PA PB
        simp only [chEnc] at PA PB
        clear hpf
        go_cut [10, 11] from 91 to 102 (fun s10 s11 wx => ∃ g, s10 = .pointer (some ⟨g, 0, none⟩) ∧ s11 = .bool false ∧ Hd (ApOld w wx S b mb rb s ml' (pushL s.cap s.log (t, u)) (0, []) g))
        case first =>
          have kb := World.new_ne wy ⟨b, 1, none⟩ y1
          have kz := World.new_ne wy ⟨w.heap.size, 1, none⟩ z1
          go_region_held3 (fun w' => w'.cell? ⟨b, 1, none⟩ = some (.pointer (some ⟨rb, 0, none⟩)) ∧ w'.cell? ⟨w.heap.size, 1, none⟩ = some (.string (bs u))) (first | go_keep | (with_reducible exact ⟨k1, k2⟩)) (first
            | (go_at_call 146; with_reducible refine PB.o.mono ?_; rintro e w3 ⟨rfl, hR2, hc2⟩; have HZ := hd (old_behind (old := (0, [])) HYY.o hR2 hc2); have hk := push_cells HYY.o HYY.o.drew.blk HYY.o.drew.box hc2; have k1 := hk.1; have k2 := hk.2; simp only at k2; clear hk; clear hR2 hc2)
            | (go_at_call 146; with_reducible refine PA.o.mono ?_; rintro e w3 ⟨rfl, hR2, hc2⟩; have hZ := old_before (old := (0, [])) HYY.o hR2 hc2; have HZ := hd hZ.2; have g0 := hZ.1.at_ 0 rfl; have g1 := hZ.1.at_ 1 rfl; have gf0 := hZ.1.frozen 0; have gf1 := hZ.1.frozen 1; have hk := push_cells HYY.o (HYY.o.alloc (.cells #[.int .i64 0, .string ⟨#[]⟩] 188)).drew.blk (HYY.o.alloc (.cells #[.int .i64 0, .string ⟨#[]⟩] 188)).drew.box hc2; have k1 := hk.1; have k2 := hk.2; simp only at k2; clear hk; clear hR2 hc2 hZ))
          all_goals
            go_wp2_with fail
            go_meet
            exact ⟨_, rfl, rfl, HZ⟩
        case rest =>
          obtain ⟨g, rfl, rfl, HZ⟩ := hcut
          obtain ⟨T1, T2, hZ1, g0, hgb⟩ := HZ.o
          have HZ1 := hd hZ1
          have y4 := hZ1.blk.at_ 4 rfl
          have yf4 := hZ1.blk.frozen 4
          have FIN : Hd (∀ (W : World) (X : Int), s.hor = X → ApZ w W S b mb rb T1 T2 s ml' (pushL s.cap s.log (t, u)) t X → ColR W (Plus S w.heap.size) b (s.app ⟨true, u, c, ck, cv⟩ t) ∧ Chg S w W) := hd (fun W X hX hz => by
            subst hX
            rw [← HML.o] at hz
            exact ⟨hz.col (o := ⟨true, u, c, ck, cv⟩) hSb.o, hz.chg⟩)
          clear hZ1 HZ g0
          go_wp2
          go_ret
          exact ⟨rfl, FIN.o _ _ HHO.o (by have := HZ1.o.set4 hSb.o t; exact this)⟩
    | false =>
      have HMD : Hd (ml' = putM s.ml u ⟨t, c⟩) := hd (by rw [← HML.o]; simp [Cs.mls])
      go_wp2_with fail
      obtain ⟨wa, hwa⟩ : ∃ wa, wa = wc.setCell ⟨b, 3, none⟩ (.int .i64 (by0 - (n : Int))) := ⟨_, rfl⟩
      have HYa : Hd (ApY w wa S b mb rb S1 S2 s (by0 - (n : Int)) ⟨false, u, c, ck, cv⟩) := hd (by rw [hwa]; exact HYc.o.set3 hSb.o _)
      have y0 := HYa.o.blk.at_ 0 rfl
      have y1 : wa.cell? ⟨w.heap.size, 1, none⟩ = some (.string (bs u)) := HYa.o.box.at_ 1 rfl
      have y2 : wa.cell? ⟨w.heap.size, 2, none⟩ = some (.string (bs c)) := HYa.o.box.at_ 2 rfl
      have HSA : Hd (∀ q, S1 q → q < wa.drew.heap.size) := hd (fun q hq => Nat.lt_of_lt_of_le (HYa.o.s1 q hq).2.2.2 HYa.o.chg.size)
      rw [← hwa]
      clear hwa x0 x1 x2 c0 c3 cf3 HYc
      go_still_tail 10, (by kernel_rfl)
      go_wp2_with fail
      refine (HMLP.o _ _ HYa.o.drew.om HSA.o).mono ?_
      rintro e w2 ⟨rfl, hO2, hc2⟩
      have HX := hd (HYa.o.drew.upd hO2 hc2)
      have z3 := HX.o.blk.at_ 3 rfl
      have zf3 := HX.o.blk.frozen 3
      have z2 : w2.cell? ⟨w.heap.size, 2, none⟩ = some (.string (bs c)) := HX.o.box.at_ 2 rfl
      clear hO2 hc2 y0 y1 y2
      go_wp2_with fail
      go_region
      have HXX : Hd (ApX w ((w2.setCell ⟨b, 3, none⟩ (.int .i64 (by0 - (n : Int) + (m : Int)))).drew) S b mb rb _ S2 s ml' (bytesM ml') ⟨false, u, c, ck, cv⟩) := hd (by
        have := (HX.o.set3 hSb.o (by0 - (n : Int) + (m : Int))).drew
        rw [← HMD.o] at this
        rw [HMD.o, HBP.o, ← HMD.o]
        exact this)
      obtain ⟨wy, hwy⟩ : ∃ wy, wy = (w2.setCell ⟨b, 3, none⟩ (.int .i64 (by0 - (n : Int) + (m : Int)))).drew := ⟨_, rfl⟩
      have HYY : Hd (ApX w wy S b mb rb _ S2 s ml' (bytesM ml') ⟨false, u, c, ck, cv⟩) := hd (hwy ▸ HXX.o)
      have y1 := HYY.o.blk.at_ 1 rfl
      have y4 := HYY.o.blk.at_ 4 rfl
      have z1 : wy.cell? ⟨w.heap.size, 1, none⟩ = some (.string (bs u)) := HYY.o.box.at_ 1 rfl
      have yl := HYY.o.blk.lt
      have zl := HYY.o.box.lt
      go_wp2_with fail
      rw [← hwy]
      clear hwy HXX HMLD HMLP HBP HBD hSw
      cases hpf : pushFull s.cap s.log with
      | true =>
        have HHO : Hd (s.hor = max s.horizon (s.log.headD (0, [])).1) := hd (by unfold Cs.hor; rw [hpf]; rfl)
        have PA := hd (HPU.o _ _ ((HYY.o.alloc (.cells #[.int .i64 0, .string ⟨#[]⟩] 188)).drew.ring))
        have PB := hd (HPU.o _ _ (HYY.o.drew.ring))
        rw [hpf] at PA PB
        simp only [if_true] at PA PB
        generalize s.log.headD (0, []) = old at *
        obtain ⟨ot, ou⟩ := old
        simp only [chEnc] at PA PB
        clear hpf
        go_cut [10, 11] from 91 to 102 (fun s10 s11 wx => ∃ g, s10 = .pointer (some ⟨g, 0, none⟩) ∧ s11 = .bool true ∧ Hd (ApOld w wx S b mb rb s ml' (pushL s.cap s.log (t, u)) (ot, ou) g))
        case first =>
          have kb := World.new_ne wy ⟨b, 1, none⟩ y1
          have kz := World.new_ne wy ⟨w.heap.size, 1, none⟩ z1
          go_region_held3 (fun w' => w'.cell? ⟨b, 1, none⟩ = some (.pointer (some ⟨rb, 0, none⟩)) ∧ w'.cell? ⟨w.heap.size, 1, none⟩ = some (.string (bs u))) (first | go_keep | (with_reducible exact ⟨k1, k2⟩)) (first
            | (go_at_call 146; with_reducible refine PB.o.mono ?_; rintro e w3 ⟨rfl, hR2, hc2⟩; have HZ := hd (old_behind (old := (ot, ou)) HYY.o hR2 hc2); have hk := push_cells HYY.o HYY.o.drew.blk HYY.o.drew.box hc2; have k1 := hk.1; have k2 := hk.2; simp only at k2; clear hk; clear hR2 hc2)
            | (go_at_call 146; with_reducible refine PA.o.mono ?_; rintro e w3 ⟨rfl, hR2, hc2⟩; have hZ := old_before (old := (ot, ou)) HYY.o hR2 hc2; have HZ := hd hZ.2; have g0 := hZ.1.at_ 0 rfl; have g1 := hZ.1.at_ 1 rfl; have gf0 := hZ.1.frozen 0; have gf1 := hZ.1.frozen 1; have hk := push_cells HYY.o (HYY.o.alloc (.cells #[.int .i64 0, .string ⟨#[]⟩] 188)).drew.blk (HYY.o.alloc (.cells #[.int .i64 0, .string ⟨#[]⟩] 188)).drew.box hc2; have k1 := hk.1; have k2 := hk.2; simp only at k2; clear hk; clear hR2 hc2 hZ))
          all_goals
            go_wp2_with fail
            go_meet
            exact ⟨_, rfl, rfl, HZ⟩
        case rest =>
          obtain ⟨g, rfl, rfl, HZ⟩ := hcut
          have hZ := HZ.o
          obtain ⟨T1, T2, hZ1, g0, hgb⟩ := hZ
          have HZ1 := hd hZ1
          have y5 := hZ1.blk.at_ 5 rfl
          have yf5 := hZ1.blk.frozen 5
          have y4 := hZ1.blk.at_ 4 rfl
          have yf4 := hZ1.blk.frozen 4
          simp only at g0
          have FIN : Hd (∀ (W : World) (X : Int), s.hor = X → ApZ w W S b mb rb T1 T2 s ml' (pushL s.cap s.log (t, u)) t X → ColR W (Plus S w.heap.size) b (s.app ⟨false, u, c, ck, cv⟩ t) ∧ Chg S w W) := hd (fun W X hX hz => by
            subst hX
            rw [← HML.o] at hz
            exact ⟨hz.col (o := ⟨false, u, c, ck, cv⟩) hSb.o, hz.chg⟩)
          clear hZ1 HZ
          go_wp2_with fail
          go_region
          all_goals
            go_wp2
            all_goals
              go_ret
              refine ⟨rfl, FIN.o _ _ ?_ ((HZ1.o.set5 hSb.o _).set4 hSb.o _).drew⟩
              have hho := HHO.o
              omega
      | false =>
        have HHO : Hd (s.hor = s.horizon) := hd (by unfold Cs.hor; rw [hpf]; rfl)
        have PA := hd (HPU.o _ _ ((HYY.o.alloc (.cells #[.int .i64 0, .string ⟨#[]⟩] 188)).drew.ring))
        have PB := hd (HPU.o _ _ (HYY.o.drew.ring))
        rw [hpf] at PA PB
        simp only [Bool.false_eq_true, if_false] at PA PB
        simp only [chEnc] at PA PB
        clear hpf
        go_cut [10, 11] from 91 to 102 (fun s10 s11 wx => ∃ g, s10 = .pointer (some ⟨g, 0, none⟩) ∧ s11 = .bool false ∧ Hd (ApOld w wx S b mb rb s ml' (pushL s.cap s.log (t, u)) (0, []) g))
        case first =>
          have kb := World.new_ne wy ⟨b, 1, none⟩ y1
          have kz := World.new_ne wy ⟨w.heap.size, 1, none⟩ z1
          go_region_held3 (fun w' => w'.cell? ⟨b, 1, none⟩ = some (.pointer (some ⟨rb, 0, none⟩)) ∧ w'.cell? ⟨w.heap.size, 1, none⟩ = some (.string (bs u))) (first | go_keep | (with_reducible exact ⟨k1, k2⟩)) (first
            | (go_at_call 146; with_reducible refine PB.o.mono ?_; rintro e w3 ⟨rfl, hR2, hc2⟩; have HZ := hd (old_behind (old := (0, [])) HYY.o hR2 hc2); have hk := push_cells HYY.o HYY.o.drew.blk HYY.o.drew.box hc2; have k1 := hk.1; have k2 := hk.2; simp only at k2; clear hk; clear hR2 hc2)
            | (go_at_call 146; with_reducible refine PA.o.mono ?_; rintro e w3 ⟨rfl, hR2, hc2⟩; have hZ := old_before (old := (0, [])) HYY.o hR2 hc2; have HZ := hd hZ.2; have g0 := hZ.1.at_ 0 rfl; have g1 := hZ.1.at_ 1 rfl; have gf0 := hZ.1.frozen 0; have gf1 := hZ.1.frozen 1; have hk := push_cells HYY.o (HYY.o.alloc (.cells #[.int .i64 0, .string ⟨#[]⟩] 188)).drew.blk (HYY.o.alloc (.cells #[.int .i64 0, .string ⟨#[]⟩] 188)).drew.box hc2; have k1 := hk.1; have k2 := hk.2; simp only at k2; clear hk; clear hR2 hc2 hZ))
          all_goals
            go_wp2_with fail
            go_meet
            exact ⟨_, rfl, rfl, HZ⟩
        case rest =>
          obtain ⟨g, rfl, rfl, HZ⟩ := hcut
          obtain ⟨T1, T2, hZ1, g0, hgb⟩ := HZ.o
          have HZ1 := hd hZ1
          have y4 := hZ1.blk.at_ 4 rfl
          have yf4 := hZ1.blk.frozen 4
          have FIN : Hd (∀ (W : World) (X : Int), s.hor = X → ApZ w W S b mb rb T1 T2 s ml' (pushL s.cap s.log (t, u)) t X → ColR W (Plus S w.heap.size) b (s.app ⟨false, u, c, ck, cv⟩ t) ∧ Chg S w W) := hd (fun W X hX hz => by
            subst hX
            rw [← HML.o] at hz
            exact ⟨hz.col (o := ⟨false, u, c, ck, cv⟩) hSb.o, hz.chg⟩)
          clear hZ1 HZ g0
          go_wp2
          go_ret
          exact ⟨rfl, FIN.o _ _ HHO.o (by have := HZ1.o.set4 hSb.o t; exact this)⟩

/-- Apply, whatever comes. -/
theorem apply_calls (w : World) (S : Nat → Prop) (b : Nat) (s : Cs) (o : OpV) (t : Int) (h : ColR w S b s) (hok : s.Ok) (hSw : ∀ q, S q → q < w.heap.size) (hl : s.ml.length < 1000000) (hlg : s.log.length < 1000000) (hby : bytesM s.ml ≤ 1000000000000) (hcl : o.card.length ≤ 1000000000000) :
    Calls Tryz.prog 122 #[.pointer (some ⟨b, 0, none⟩), .agg (opEnc o).toArray, .int .i64 t] w fun e w' => e = .returned (.bool (s.step o t).1) ∧ ColR w' (Plus S w.heap.size) b (s.step o t).2 ∧ Chg S w w' := by
  unfold Cs.step
  cases hn : s.no o t with
  | true => exact (apply_no w S b s o t h (by omega) hn).mono fun e w' ⟨he, hb⟩ => ⟨he, (h.below hb).mono (fun _ h => .inl h), Chg.of_below _ hb⟩
  | false => exact apply_yes w S b s o t h hok hSw hl hlg hby hcl hn

end Go.Proofs.YtfacfdjapjhpeaaGreatDoor
