/-
  The collection: Since.
-/
import Derived.Test.YtfacfdjapjhpeaaGreatDoorGAG
import Derived.Test.YtfacfdjapjhpeaaGreatDoorColAp
import Derived.Maps.Views
import Derived.Maps.OwnOps
import Derived.Maps.OwnIn
import Derived.BigQuiet
import Derived.Test.YtfacfdjapjhpeaaGreatDoorGAA
set_option linter.unusedVariables false
set_option linter.unusedSimpArgs false
namespace Go.Proofs.YtfacfdjapjhpeaaGreatDoor
open Go.RowKit Go.Lib Go.Maps Go.WideMaps

/-- The token is of no time that is known. -/
def Cs.bad (s : Cs) (tok : Int) : Bool := decide (tok < s.horizon) || decide (s.latest < tok)
/-- Since's first boxes. -/
structure SinB (w w3 : World) (b : Nat) (tok : Int) : Prop where
  c : Blk w3 w.heap.size 108 #[.pointer (some ⟨b, 0, none⟩)]
  t : Blk w3 (w.heap.size + 1) 2 #[.int .i64 tok]
  o : Blk w3 (w.heap.size + 2) 37 #[.slice none 0 0]
  below : Below w.heap.size w w3
  size : w3.heap.size = w.heap.size + 3
theorem sinB (w : World) (b : Nat) (tok : Int) : SinB w (((w.alloc (.cells #[.pointer (some ⟨b, 0, none⟩)] 108)).alloc (.cells #[.int .i64 tok] 2)).alloc (.cells #[.slice none 0 0] 37)) b tok :=
  ⟨((Blk.new w 108 _).alloc _).alloc _, (Blk.new_ _ _ (by simp) _ _).alloc _, Blk.new_ _ _ (by simp) _ _, (((Below.refl _ w).alloc (Nat.le_refl _) _).alloc (by simp) _).alloc (by simp; omega) _, by simp⟩
set_option maxRecDepth 100000 in
theorem since_bad (w : World) (S : Nat → Prop) (b : Nat) (s : Cs) (tok : Int) (h : ColR w S b s) (h0 : tok ≠ 0) (hb : s.bad tok = true) :
    Calls Tryz.prog 125 #[.pointer (some ⟨b, 0, none⟩), .int .i64 tok] w fun e w' => e = .returned (.tuple #[.slice none 0 0, .int .i64 8]) ∧ Below w.heap.size w w' := by
  obtain ⟨mb, rb, S1, S2, hB, _⟩ := h
  have c4 := hB.at_ 4 rfl
  have c5 := hB.at_ 5 rfl
  have hbl := hB.lt
  have f0 : (tok == 0) = false := by simpa using h0
  have HN : Hd (tok < s.horizon ∨ (¬ tok < s.horizon ∧ s.latest < tok)) := hd (by simp [Cs.bad] at hb; omega)
  have hB0 : ∀ w', Below w.heap.size w w' → w'.cell? ⟨b, 4, none⟩ = some (.int .i64 s.latest) ∧ w'.cell? ⟨b, 5, none⟩ = some (.int .i64 s.horizon) := fun w' hbe => ⟨(hB.below hbe hbl).at_ 4 rfl, (hB.below hbe hbl).at_ 5 rfl⟩
  generalize s.horizon = ho at *
  generalize s.latest = la at *
  clear hB h0 hb
  have HSB := hd (sinB w b tok)
  have HCB := hd (hB0 : ∀ w', Below w.heap.size w w' → w'.cell? ⟨b, 4, none⟩ = some (.int .i64 la) ∧ w'.cell? ⟨b, 5, none⟩ = some (.int .i64 ho))
  clear hB0 c4 c5
  rcases HN.o with h1 | ⟨h1, h2⟩
  · have f1 : decide (tok < ho) = true := by simpa using h1
    clear h1 HN
    go_enter Tryz.func125, Tryz.ntmps125
    go_wp2_with fail
    obtain ⟨w3, hw3⟩ : ∃ w3, w3 = (((w.alloc (.cells #[.pointer (some ⟨b, 0, none⟩)] 108)).alloc (.cells #[.int .i64 tok] 2)).alloc (.cells #[.slice none 0 0] 37)) := ⟨_, rfl⟩
    have HW : Hd (SinB w w3 b tok) := hd (hw3 ▸ HSB.o)
    obtain ⟨c4, c5⟩ := HCB.o w3 HW.o.below
    have p0 := HW.o.c.at_ 0 rfl
    have p1 := HW.o.t.at_ 0 rfl
    rw [← hw3]
    clear hw3
    go_quiet (fail)
    go_wp2
    go_ret2
    exact ⟨rfl, bdrewN HW.o.below _⟩
  · have f1 : decide (tok < ho) = false := by simpa using h1
    have f2 : decide (la < tok) = true := by simpa using h2
    clear h1 h2 HN
    go_enter Tryz.func125, Tryz.ntmps125
    go_wp2_with fail
    obtain ⟨w3, hw3⟩ : ∃ w3, w3 = (((w.alloc (.cells #[.pointer (some ⟨b, 0, none⟩)] 108)).alloc (.cells #[.int .i64 tok] 2)).alloc (.cells #[.slice none 0 0] 37)) := ⟨_, rfl⟩
    have HW : Hd (SinB w w3 b tok) := hd (hw3 ▸ HSB.o)
    obtain ⟨c4, c5⟩ := HCB.o w3 HW.o.below
    have p0 := HW.o.c.at_ 0 rfl
    have p1 := HW.o.t.at_ 0 rfl
    rw [← hw3]
    clear hw3
    go_quiet (fail)
    go_wp2
    go_ret2
    exact ⟨rfl, bdrewN HW.o.below _⟩

def SortedOf (l l' : List It) : Prop := l'.Perm l ∧ l'.Pairwise (fun x y => itLt y x = false)

set_option maxRecDepth 100000 in
set_option maxHeartbeats 4000000 in
theorem since_zero (w : World) (S : Nat → Prop) (b : Nat) (s : Cs) (h : ColR w S b s) (hl : s.ml.length ≤ 1000000) :
    Calls Tryz.prog 125 #[.pointer (some ⟨b, 0, none⟩), .int .i64 0] w fun e w' => ∃ l' A c, e = .returned (.tuple #[.slice A l'.length c, .int .i64 0]) ∧ SortedOf (liveL s.ml) l' ∧ Row w' (From w.heap.size) 63 4 A l'.length c (itsEnc l') ∧ Below w.heap.size w w' := by
  have hb3 : Below w.heap.size w (((w.alloc (.cells #[.pointer (some ⟨b, 0, none⟩)] 108)).alloc (.cells #[.int .i64 0] 2)).alloc (.cells #[.slice none 0 0] 37)) := (((Below.refl _ w).alloc (Nat.le_refl _) _).alloc (by simp) _).alloc (by simp; omega) _
  have HL := hd (clive_calls _ S b s (h.below hb3) hl)
  have HB3 := hd hb3
  have hbl := h.lt
  have hll := liveL_len s.ml
  obtain ⟨ml, hml⟩ : ∃ ml, s.ml = ml := ⟨_, rfl⟩
  rw [hml] at HL hll hl ⊢
  obtain ⟨n, hn⟩ : ∃ n, ml.length = n := ⟨_, rfl⟩
  rw [hn] at HL hll hl
  have HLL := hd hll
  clear hb3 hml hn hll h
  go_enter Tryz.func125, Tryz.ntmps125
  go_wp2_with fail
  refine HL.o.mono ?_
  rintro e w1 ⟨A, c, rfl, hr, hbe⟩
  have ho : Blk w1 (w.heap.size + 2) 37 #[.slice none 0 0] := (Blk.new_ ((w.alloc (.cells #[.pointer (some ⟨b, 0, none⟩)] 108)).alloc (.cells #[.int .i64 0] 2)) (w.heap.size + 2) (by simp) 37 _).below hbe (by simp)
  have o0 := ho.at_ 0 rfl
  have of0 := ho.frozen 0
  have HO := hd ho
  have HR := hd hr
  have HB := hd (HB3.o.trans (hbe.mono (by simp; omega)))
  have hsz : w.heap.size + 3 ≤ w1.heap.size := by have := hbe.size; simp at this; omega
  have HA : Hd (∀ q, Of A q → w.heap.size + 3 ≤ q) := hd (fun q hq => by have h1 := hr.of_sub q hq; have h2 : (((w.alloc (.cells #[.pointer (some ⟨b, 0, none⟩)] 108)).alloc (.cells #[.int .i64 0] 2)).alloc (.cells #[.slice none 0 0] 37)).heap.size ≤ q := h1; simp at h2; omega)
  clear ho hr hbe HL
  go_wp2_with fail
  refine (sortIt_holds _ (Of A) A n c (liveL ml) HLL.o.symm (HR.o.own_.far (p := ⟨w.heap.size + 2, 0, none⟩) (fun a ha => by
    have := HA.o a.block (by rw [ha]; rfl)
    show a.block ≠ w.heap.size + 2
    omega) _) hl).mono ?_
  rintro e w2 ⟨rfl, l', hp, hs, hr2, hc2⟩
  have hlen : l'.length = n := by rw [hp.length_eq, HLL.o]
  have o2 : w2.cell? ⟨w.heap.size + 2, 0, none⟩ = some (.slice A n c) := ((HO.o.set_ 0 (.slice A n c)).chg hc2 (fun hq => by have := HA.o _ hq; omega)).at_ 0 rfl
  have HR2 := hd hr2
  have HC2 := hd hc2
  have HP := hd hp
  have HS := hd hs
  have HLEN := hd hlen
  clear hp hs hr2 hc2 hlen o0 of0
  go_wp2
  go_ret2
  refine ⟨l', A, c, (by show Ending.returned (.tuple #[.slice A n c, .int .i64 0]) = _; rw [HLEN.o]), ⟨HP.o, HS.o⟩, ?_, ?_⟩
  · rw [HLEN.o]
    refine HR2.o.mono fun q hq => ?_
    have := HA.o q hq
    show w.heap.size ≤ q
    omega
  · have hb1 : Below w.heap.size w (w1.setCell ⟨w.heap.size + 2, 0, none⟩ (.slice A n c)) := HB.o.setCell (by show w.heap.size ≤ w.heap.size + 2; omega) _
    exact hb1.trans (HC2.o.below (fun q hq => by have := HA.o q hq; omega) (by rw [size_setCell]; omega))

/-- What a change of the log tells. -/
def itAt (ml : ML Ce) (x : Ch) : It := if hasM ml x.2 = true then ⟨x.2, verM ml x.2, false, txtM ml x.2⟩ else ⟨x.2, x.1, true, []⟩
def chSeen (pre : List Ch) (u : List UInt8) : Nat := pre.countP fun y => y.2 == u
def stepS (ml : ML Ce) (tok : Int) (pre : List Ch) (x : Ch) : List It := if x.1 ≤ tok ∨ 0 < chSeen pre x.2 then [] else [itAt ml x]
def outS (ml : ML Ce) (tok : Int) (l : List Ch) : List Ch × List It := l.foldl (fun a x => (a.1 ++ [x], a.2 ++ stepS ml tok a.1 x)) ([], [])
def outP (ml : ML Ce) (tok : Int) (l : List Ch) : List It := (outS ml tok l).2
theorem outS_fst (ml : ML Ce) (tok : Int) (l : List Ch) : (outS ml tok l).1 = l := by
  unfold outS
  have : ∀ (l : List Ch) (a : List Ch × List It), (l.foldl (fun a x => (a.1 ++ [x], a.2 ++ stepS ml tok a.1 x)) a).1 = a.1 ++ l := by
    intro l
    induction l with
    | nil => intro a; simp
    | cons x l ih => intro a; rw [List.foldl_cons, ih]; simp
  rw [this]
  rfl
theorem outP_snoc (ml : ML Ce) (tok : Int) (l : List Ch) (x : Ch) : outP ml tok (l ++ [x]) = outP ml tok l ++ stepS ml tok l x := by
  unfold outP
  have h := outS_fst ml tok l
  conv => lhs; unfold outS
  rw [List.foldl_append]
  show (outS ml tok l).2 ++ stepS ml tok (outS ml tok l).1 x = _
  rw [h]
theorem outP_len (ml : ML Ce) (tok : Int) : ∀ (k : Nat) (l : List Ch), l.length = k → (outP ml tok l).length ≤ k
  | 0, l, h => by
    obtain rfl : l = [] := List.eq_nil_of_length_eq_zero h
    simp [outP, outS]
  | k + 1, l, h => by
    obtain ⟨l', x, rfl⟩ : ∃ l' x, l = l' ++ [x] := ⟨l.dropLast, l.getLast (by rintro rfl; simp at h), (List.dropLast_concat_getLast _).symm⟩
    have ih := outP_len ml tok k l' (by simpa using h)
    rw [outP_snoc, List.length_append]
    unfold stepS
    split <;> simp <;> omega

abbrev z64c {H : Type} : DataW H := .lit (.int .i64 0)
theorem chSeen_le (l : List Ch) (u : List UInt8) : chSeen l u ≤ l.length := List.countP_le_length
theorem chSeen_snoc (l : List Ch) (x : Ch) (u : List UInt8) : chSeen (l ++ [x]) u = chSeen l u + if x.2 = u then 1 else 0 := by
  unfold chSeen
  rw [List.countP_append]
  by_cases h : x.2 = u <;> simp [h]
structure SeenC {H : Type} (D : DataW H) (l : List Ch) : Prop where
  map : IsMap D
  at_ : ∀ s, D.atKey (.string s) z64c = .lit (.int .i64 (chSeen l s : Nat))
theorem SeenC.start {H : Type} : SeenC (.map [] : DataW H) [] := ⟨isMap_empty, fun s => by simp [DataW.atKey, chSeen]⟩
theorem SeenC.step {H : Type} {D : DataW H} {l : List Ch} (h : SeenC D l) (x : Ch) : SeenC (D.put (.string x.2) (.lit (.int .i64 ((chSeen l x.2 : Int) + 1)))) (l ++ [x]) := by
  refine ⟨h.map.put _ _, fun s => ?_⟩
  rw [chSeen_snoc]
  by_cases he : x.2 = s
  · subst he
    rw [atKey_put_same h.map (show WideAt.IsKeyLit (.string x.2) from trivial), if_pos rfl]
    simp
  · rw [atKey_put_other (by intro e; injection e with e; exact he e.symm), h.at_, if_neg he]
    simp
theorem cntC_eq {H : Type} {D : DataW H} {l : List Ch} {s : List UInt8} {c : Int} {q : Nat} (h : SeenC D l) (hq : chSeen l s = q) (hat : D.atKey (.string s) z64c = .lit (.int .i64 c)) : c = (q : Int) := by
  have h1 := (h.at_ s).symm.trans hat
  injection h1 with h1
  injection h1 with _ h1
  rw [← h1, hq]
theorem lawC : Keyed Tryz.prog 9 := string_keyed Tryz.underlying9
theorem zeroC (w : World) : (zeroValue 3).run Tryz.prog w = .ok (.int .i64 0) w := by kernel_rfl
theorem kf_of_chgB {S : Nat → Prop} {B : Nat} {W W' : World} (h : Chg S W W') (hS : ∀ k o, S k → B ≤ k → W.heap[k]? = some o → o.isCells = true) : KeepsFrom B W W' :=
  ⟨h.size, fun k o hB hk ho => by
    have hlt := (Array.getElem?_eq_some_iff.1 hk).1
    by_cases hs : S k
    · rw [hS k o hs hB hk] at ho; cases ho
    · exact (h.block k hlt hs).trans hk⟩

abbrev ChU := {x : Ch // x.2.length ≤ maxLen}
def unU (l : List ChU) : List Ch := l.map (fun x => x.1)
theorem unU_len (l : List ChU) : (unU l).length = l.length := by simp [unU]
theorem unU_snoc (l : List ChU) (x : ChU) : unU (l ++ [x]) = unU l ++ [x.1] := by simp [unU]
theorem unU_rev (l : List ChU) : unU l.reverse = (unU l).reverse := by simp [unU]
theorem exU : ∀ (l : List Ch), (∀ x ∈ l, x.2.length ≤ maxLen) → ∃ rl, unU rl = l
  | [], _ => ⟨[], rfl⟩
  | x :: l, h => by
    obtain ⟨rl, hr⟩ := exU l (fun y hy => h y (List.mem_cons_of_mem _ hy))
    exact ⟨⟨x, h x (List.mem_cons_self ..)⟩ :: rl, by show x :: unU rl = _; rw [hr]⟩
/-- What holds while the log is gone through. -/
structure SInv (w : World) (b : Nat) (tok : Int) (ml : ML Ce) (pre : List Ch) (W : World) : Prop where
  out : ∃ A c, Blk W (w.heap.size + 2) 37 #[.slice A (outP ml tok pre).length c] ∧ Row W (From (w.heap.size + 6)) 63 4 A (outP ml tok pre).length c (itsEnc (outP ml tok pre))
  seen : Blk W (w.heap.size + 4) 221 #[.map (some (w.heap.size + 3))]
  map : ∃ D : DataW Unit, W.ownsMap Tryz.prog 9 (plainElem Tryz.prog 3) (w.heap.size + 3) pre.length D ∧ SeenC D pre
  bc : Blk W w.heap.size 108 #[.pointer (some ⟨b, 0, none⟩)]
  bt : Blk W (w.heap.size + 1) 2 #[.int .i64 tok]
  below : Below w.heap.size w W
  size : w.heap.size + 6 ≤ W.heap.size
def SinT (N : Nat) : Nat → Prop := fun k => (k < N + 3 ∧ k ≠ N + 2) ∨ k = N + 5
theorem SInv.own {w : World} {b : Nat} {tok : Int} {ml : ML Ce} {pre : List Ch} {X Y : World} {row : Option Nat} {B : Nat} (h : SInv w b tok ml pre X) (hB : B = w.heap.size + 6) (hg : X.grownBy Y row) (hr : ∀ r, row = some r → B ≤ r ∧ ∃ o : Obj, X.heap[r]? = some o ∧ o.isCells = false) : SInv w b tok ml pre Y := by
  obtain ⟨⟨A, c, h1, h2⟩, h3, ⟨D, h4, h5⟩, h6, h7, h8, h9⟩ := h
  refine ⟨⟨A, c, blk_own h1 hg hr, row_own h2 hg hr⟩, blk_own h3 hg hr, ⟨D, h4.kept hg (fun e => ?_), h5⟩, blk_own h6 hg hr, blk_own h7 hg hr, below_own h8 (Nat.le_refl _) (by omega) hg hr, Nat.le_trans h9 hg.size⟩
  have := (hr _ e.symm).1
  omega
theorem SInv.alloc {w : World} {b : Nat} {tok : Int} {ml : ML Ce} {pre : List Ch} {X : World} (h : SInv w b tok ml pre X) (cs : Array Value) (t : TypeId) : SInv w b tok ml pre (X.alloc (.cells cs t)) := by
  obtain ⟨⟨A, c, h1, h2⟩, h3, ⟨D, h4, h5⟩, h6, h7, h8, h9⟩ := h
  exact ⟨⟨A, c, h1.alloc _, h2.alloc _⟩, h3.alloc _, ⟨D, h4.alloc _, h5⟩, h6.alloc _, h7.alloc _, h8.alloc h8.size _, by simp; omega⟩
/-- Behind the count of one more: all but the row that is told. -/
structure SMid (w : World) (b : Nat) (tok : Int) (ml : ML Ce) (pre : List Ch) (x : Ch) (W W' : World) : Prop where
  out : ∃ A c, Blk W' (w.heap.size + 2) 37 #[.slice A (outP ml tok pre).length c] ∧ Row W' (From (w.heap.size + 6)) 63 4 A (outP ml tok pre).length c (itsEnc (outP ml tok pre))
  seen : Blk W' (w.heap.size + 4) 221 #[.map (some (w.heap.size + 3))]
  map : ∃ D : DataW Unit, W'.ownsMap Tryz.prog 9 (plainElem Tryz.prog 3) (w.heap.size + 3) (pre.length + 1) D ∧ SeenC D (pre ++ [x])
  bc : Blk W' w.heap.size 108 #[.pointer (some ⟨b, 0, none⟩)]
  bt : Blk W' (w.heap.size + 1) 2 #[.int .i64 tok]
  below : Below w.heap.size w W'
  size : w.heap.size + 6 ≤ W.heap.size
  chg : Chg (fun k => k = w.heap.size + 3) W W'
theorem SMid.bel {w : World} {b : Nat} {tok : Int} {ml : ML Ce} {pre : List Ch} {x : Ch} {W W' W2 : World} (h : SMid w b tok ml pre x W W') (hb : Below W'.heap.size W' W2) (hm : ∀ (D : DataW Unit), W'.ownsMap Tryz.prog 9 (plainElem Tryz.prog 3) (w.heap.size + 3) (pre.length + 1) D → W2.ownsMap Tryz.prog 9 (plainElem Tryz.prog 3) (w.heap.size + 3) (pre.length + 1) D) : SMid w b tok ml pre x W W2 := by
  obtain ⟨⟨A, c, h1, h2⟩, h3, ⟨D, h4, h5⟩, h6, h7, h8, h9, h10⟩ := h
  exact ⟨⟨A, c, h1.below hb h1.lt, h2.below hb⟩, h3.below hb h3.lt, ⟨D, hm D h4, h5⟩, h6.below hb h6.lt, h7.below hb h7.lt, h8.trans (hb.mono h8.size), h9, h10.then_below hb⟩
theorem SMid.ends {w : World} {b : Nat} {tok : Int} {ml : ML Ce} {pre : List Ch} {x : Ch} {W W' : World} (h : SMid w b tok ml pre x W W') (hs : stepS ml tok pre x = []) : KeepsFrom (w.heap.size + 6) W W' ∧ Chg (fun k => ¬ SinT w.heap.size k) W W' ∧ SInv w b tok ml (pre ++ [x]) W' := by
  obtain ⟨⟨A, c, h1, h2⟩, h3, ⟨D, h4, h5⟩, h6, h7, h8, h9, h10⟩ := h
  have hs2 := h10.size
  have e : outP ml tok (pre ++ [x]) = outP ml tok pre := by rw [outP_snoc, hs, List.append_nil]
  refine ⟨kf_of_chgB h10 (fun k o hk hB => by omega), h10.mono (fun k hk ht => ?_), ⟨⟨A, c, ?_, ?_⟩, h3, ⟨D, ?_, h5⟩, h6, h7, h8, by omega⟩⟩
  · rcases ht with ht | ht <;> omega
  · rw [e]; exact h1
  · rw [e]; exact h2
  · rw [List.length_append]; exact h4

/-- One more is told. -/
theorem SMid.app {w : World} {b : Nat} {tok : Int} {ml : ML Ce} {pre : List Ch} {x : Ch} {W W' w2 : World} {y : It} {A A2 : Option Addr} {c c2 : Nat} (h : SMid w b tok ml pre x W W') (hs : stepS ml tok pre x = [y]) (cs : Array Value) (t : TypeId)
    (hO : Blk W' (w.heap.size + 2) 37 #[.slice A (outP ml tok pre).length c]) (hR : Row W' (From (w.heap.size + 6)) 63 4 A (outP ml tok pre).length c (itsEnc (outP ml tok pre)))
    (h2 : Row w2 (Plus (Of A) (W'.alloc (.cells cs t)).heap.size) 63 4 A2 ((outP ml tok pre).length + 1) c2 (itsEnc (outP ml tok pre) ++ itEnc y)) (hc : Chg (Of A) (W'.alloc (.cells cs t)) w2) (hWk : ∀ k o, Of A k → W.heap[k]? = some o → o.isCells = true) (hWo : ∀ o, W.heap[w.heap.size + 2]? = some o → o.isCells = true) :
    KeepsFrom (w.heap.size + 6) W (w2.setCell ⟨w.heap.size + 2, 0, none⟩ (.slice A2 ((outP ml tok pre).length + 1) c2)) ∧ Chg (fun k => ¬ SinT w.heap.size k) W (w2.setCell ⟨w.heap.size + 2, 0, none⟩ (.slice A2 ((outP ml tok pre).length + 1) c2)) ∧ SInv w b tok ml (pre ++ [x]) (w2.setCell ⟨w.heap.size + 2, 0, none⟩ (.slice A2 ((outP ml tok pre).length + 1) c2)) := by
  obtain ⟨_, h3, ⟨D, h4, h5⟩, h6, h7, h8, h9, h10⟩ := h
  have hs2 := h10.size
  have hA : ∀ k, Of A k → w.heap.size + 6 ≤ k := fun k hk => hR.of_sub k hk
  have hal : Chg (Of A) W' w2 := ((Chg.refl _ W').alloc _).trans hc (fun _ h => .inl h)
  have hal2 : Chg (fun k => Of A k ∨ k = w.heap.size + 2) W' (w2.setCell ⟨w.heap.size + 2, 0, none⟩ (.slice A2 ((outP ml tok pre).length + 1) c2)) := (hal.mono (fun k hk => .inl hk)).setCell (.inl (.inr rfl)) _
  have hC : Chg (fun k => Of A k ∨ k = w.heap.size + 2 ∨ k = w.heap.size + 3) W (w2.setCell ⟨w.heap.size + 2, 0, none⟩ (.slice A2 ((outP ml tok pre).length + 1) c2)) := (h10.mono (fun k hk => .inr (.inr hk))).trans hal2 (fun k hk => .inl (hk.imp id .inl))
  have hbx : Blk w2 (w.heap.size + 2) 37 #[.slice A (outP ml tok pre).length c] := hO.chg hal (fun hk => by have := hA _ hk; omega)
  have e : outP ml tok (pre ++ [x]) = outP ml tok pre ++ [y] := by rw [outP_snoc, hs]
  have el : (outP ml tok (pre ++ [x])).length = (outP ml tok pre).length + 1 := by rw [e]; simp
  have ee : itsEnc (outP ml tok (pre ++ [x])) = itsEnc (outP ml tok pre) ++ itEnc y := by rw [e]; simp [itsEnc]
  refine ⟨kf_of_chgB hC (fun k o hk hB ho => ?_), hC.mono (fun k hk ht => ?_), ⟨⟨A2, c2, ?_, ?_⟩, ?_, ⟨D, ?_, h5⟩, ?_, ?_, ?_, ?_⟩⟩
  · rcases hk with hk | hk | hk
    · exact hWk k o hk ho
    · omega
    · omega
  · rcases hk with hk | rfl | rfl
    · have := hA k hk; rcases ht with ht | ht <;> omega
    · rcases ht with ht | ht <;> omega
    · rcases ht with ht | ht <;> omega
  · rw [el]; exact hbx.set_ 0 _
  · rw [el, ee]
    refine (h2.mono fun q hq => ?_).far (h2.ne_blk hbx (by decide)) _
    rcases hq with hq | hq
    · exact hA q hq
    · simp at hq
      show w.heap.size + 6 ≤ q
      omega
  · exact (h3.chg hal (fun hk => by have := hA _ hk; omega)).far (p := ⟨w.heap.size + 2, 0, none⟩) (by show w.heap.size + 4 ≠ w.heap.size + 2; omega) _
  · rw [List.length_append]
    have g1 : W'.grownBy w2 (A.map (·.block)) := ⟨hal.os, hal.tape, hal.output, hal.size, fun k hk hne => hal.block k hk hne⟩
    have k1 := h4.kept g1 (fun e => by have := hA _ e; omega)
    have hst : Chg (One (w.heap.size + 2)) w2 (w2.setCell ⟨w.heap.size + 2, 0, none⟩ (.slice A2 ((outP ml tok pre).length + 1) c2)) := Chg.setCell (S := One (w.heap.size + 2)) (Chg.refl _ _) (p := ⟨w.heap.size + 2, 0, none⟩) (.inl rfl) _
    exact k1.kept (row := some (w.heap.size + 2)) ⟨hst.os, hst.tape, hst.output, hst.size, fun k hk hne => hst.block k hk (fun e => hne (by rw [e]))⟩ (by simp)
  · exact (h6.chg hal (fun hk => by have := hA _ hk; omega)).far (p := ⟨w.heap.size + 2, 0, none⟩) (by show w.heap.size ≠ w.heap.size + 2; omega) _
  · exact (h7.chg hal (fun hk => by have := hA _ hk; omega)).far (p := ⟨w.heap.size + 2, 0, none⟩) (by show w.heap.size + 1 ≠ w.heap.size + 2; omega) _
  · exact h8.trans (hal2.below (fun k hk => by rcases hk with hk | rfl; have := hA k hk; omega; omega) h8.size)
  · have := hal2.size; omega

attribute [local go_sem] Oper.semAt_some

set_option maxRecDepth 100000 in
set_option maxHeartbeats 4000000 in
theorem since_some (w : World) (S : Nat → Prop) (b : Nat) (s : Cs) (tok : Int) (h : ColR w S b s) (hl : s.ml.length ≤ 1000000) (hlg : s.log.length ≤ 1000000) (hu : ∀ x ∈ s.log, x.2.length ≤ maxLen) (h0 : tok ≠ 0) (hb : s.bad tok = false) :
    Calls Tryz.prog 125 #[.pointer (some ⟨b, 0, none⟩), .int .i64 tok] w fun e w' => ∃ l' A c, e = .returned (.tuple #[.slice A l'.length c, .int .i64 0]) ∧ SortedOf (outP s.ml tok s.log.reverse) l' ∧ Row w' (From w.heap.size) 63 4 A l'.length c (itsEnc l') ∧ Below w.heap.size w w' := by
  obtain ⟨rl, hrl⟩ := exU s.log hu
  have HRL := hd hrl
  obtain ⟨i0, hi, hz0, hz1, hz2⟩ := info_parts itInfo
  have HC := hd h
  obtain ⟨mb, rb, S1, S2, hB, hO, hR, hSb, hS1, hS2⟩ := h
  rw [← hrl] at hR
  have HR := hd hR
  have hlg : rl.length ≤ 1000000 := by rw [← unU_len, hrl]; exact hlg
  clear hrl hu
  have c1 := hB.at_ 1 rfl
  have c4 := hB.at_ 4 rfl
  have c5 := hB.at_ 5 rfl
  have hbl := hB.lt
  have f0 : (tok == 0) = false := by simpa using h0
  have f1 : decide (tok < s.horizon) = false := by simp [Cs.bad] at hb; simp; omega
  have f2 : decide (s.latest < tok) = false := by simp [Cs.bad] at hb; simp; omega
  have hmm := @run_makeMap Tryz.prog
  have HCB : Hd (∀ w', Below w.heap.size w w' → w'.cell? ⟨b, 1, none⟩ = some (.pointer (some ⟨rb, 0, none⟩)) ∧ w'.cell? ⟨b, 4, none⟩ = some (.int .i64 s.latest) ∧ w'.cell? ⟨b, 5, none⟩ = some (.int .i64 s.horizon)) := hd (fun w' hbe => ⟨(hB.below hbe hbl).at_ 1 rfl, (hB.below hbe hbl).at_ 4 rfl, (hB.below hbe hbl).at_ 5 rfl⟩)
  clear hB h0 hb hO hR c1 c4 c5
  refine (callsIn_wide (n := 5)).1 (callsIn_of_wp_marks Tryz.func125 rfl trivial ((wpIn_wide (n := 5)).2 ?_))
  simp only [Tryz.ntmps125, List.size_toArray, List.length_cons, List.length_nil, Nat.reduceAdd, Nat.reduceSub, Array.replicate_succ, Array.replicate_zero, List.push_toArray, List.append_toArray, List.nil_append, List.cons_append]
  go_wp2_with fail
  obtain ⟨w3, hw3⟩ : ∃ w3, w3 = (((w.alloc (.cells #[.pointer (some ⟨b, 0, none⟩)] 108)).alloc (.cells #[.int .i64 tok] 2)).alloc (.cells #[.slice none 0 0] 37)) := ⟨_, rfl⟩
  have HW : Hd (SinB w w3 b tok) := hd (hw3 ▸ sinB w b tok)
  have HC3 := hd (HC.o.below HW.o.below)
  obtain ⟨d1, d4, d5⟩ := HCB.o w3 HW.o.below
  have p0 := HW.o.c.at_ 0 rfl
  have p1 := HW.o.t.at_ 0 rfl
  have hz0 := HW.o.c.lt
  have hz1 := HW.o.t.lt
  have hz2 := HW.o.o.lt
  have hzb := HC3.o.lt
  have hma : ∀ q bb oo, bb < w3.heap.size → ((w3.drewN q).alloc (.map #[] 0)).cell? ⟨bb, oo, none⟩ = w3.cell? ⟨bb, oo, none⟩ := fun q bb oo hbb => ((bdrewN (Below.refl w3.heap.size w3) q).alloc (Nat.le_refl _) (.map #[] 0)).cell (p := ⟨bb, oo, none⟩) hbb
  rw [← hw3]
  clear hw3
  go_quiet (fail)
  go_wp2_with fail
  refine (back_calls _ rb).mono ?_
  rintro e w' ⟨rfl, rfl⟩
  go_wp2_with fail
  have e3 := HW.o.size
  have hW0 : SInv w b tok s.ml [] ((((w3.drewN nq).alloc (.map #[] 0)).alloc (.cells #[.map (some (w.heap.size + 3))] 221)).alloc (.cells #[.pointer (some ⟨rb, 0, none⟩)] 157)) := by
    refine ⟨⟨none, 0, (((HW.o.o.drewN nq).alloc _).alloc _).alloc _, Row.nil _ _ _ _⟩, (Blk.new_ _ _ (by simp [e3]) _ _).alloc _, ⟨.map [], ?_, SeenC.start⟩, (((HW.o.c.drewN nq).alloc _).alloc _).alloc _, (((HW.o.t.drewN nq).alloc _).alloc _).alloc _, (((bdrewN HW.o.below nq).alloc (by show w.heap.size ≤ w3.heap.size; omega) _).alloc (by simp; omega) _).alloc (by simp; omega) _, by simp; omega⟩
    have h := World.ownsMap_made (H := Unit) (w3.drewN nq) Tryz.prog 9 (plainElem Tryz.prog 3)
    have e4 : (w3.drewN nq).heap.size = w.heap.size + 3 := e3
    rw [e4] at h
    exact (h.alloc _).alloc _
  have hC0 : ColR ((((w3.drewN nq).alloc (.map #[] 0)).alloc (.cells #[.map (some (w.heap.size + 3))] 221)).alloc (.cells #[.pointer (some ⟨rb, 0, none⟩)] 157)) S b s := HC.o.below hW0.below
  have hR0 : RingR ((((w3.drewN nq).alloc (.map #[] 0)).alloc (.cells #[.map (some (w.heap.size + 3))] 221)).alloc (.cells #[.pointer (some ⟨rb, 0, none⟩)] 157)) S2 rb s.cap (unU rl) := HR.o.below hW0.below
  have hBr : Blk ((((w3.drewN nq).alloc (.map #[] 0)).alloc (.cells #[.map (some (w.heap.size + 3))] 221)).alloc (.cells #[.pointer (some ⟨rb, 0, none⟩)] 157)) (w.heap.size + 5) 157 #[.pointer (some ⟨rb, 0, none⟩)] := Blk.new_ _ _ (by simp [e3]) _ _
  have hs0 : ((((w3.drewN nq).alloc (.map #[] 0)).alloc (.cells #[.map (some (w.heap.size + 3))] 221)).alloc (.cells #[.pointer (some ⟨rb, 0, none⟩)] 157)).heap.size = w.heap.size + 6 := by simp [e3]
  rw [e3]
  obtain ⟨W0, hW⟩ : ∃ W0, ((((w3.drewN nq).alloc (.map #[] 0)).alloc (.cells #[.map (some (w.heap.size + 3))] 221)).alloc (.cells #[.pointer (some ⟨rb, 0, none⟩)] 157)) = W0 := ⟨_, rfl⟩
  rw [hW] at hW0 hC0 hR0 hBr hs0 ⊢
  clear hW
  have hT : ∀ k, SinT w.heap.size k → k < W0.heap.size := fun k hk => by rcases hk with hk | hk <;> omega
  have HS0 := hd hs0
  have HL := hd hl
  have HLG := hd hlg
  have HCOL : Hd (∀ W, Below w.heap.size w W → ColR W S b s) := hd (fun W hb => HC.o.below hb)
  clear hma d1 d4 d5 p0 p1 hz0 hz1 hz2 hzb HW HC3 hbl f1 f2 f0 hmm
  refine (wpIn_wide (n := 5)).1 ?_
  refine wpIn_rangeFunc_ownH rfl (by omega) (gf := 169) (lb := #[.pointer (some ⟨w.heap.size + 5, 0, none⟩)]) rfl trivial (enters_of Tryz.func169 (by kernel_rfl) rfl)
    (back_stops 3 (w.heap.size + 5) rb (SinT w.heap.size) S2 s.cap _ rl hlg W0 hBr (.inr rfl) hR0 (fun k hk => .inl (by have := (hS2 k hk).2.2; omega))) chgK_t (chgK_b hT) (Below.refl _ _) (fun _ => rfl)
    (fun (pre : List ChU) W => SInv w b tok s.ml (unU pre) W)
    (fun _ _ _ => False)
    (fun pre X Y row hs hg hr => hs.own hs0 hg hr)
    (fun _ _ _ _ _ hs _ _ => hs)
    hW0
    (fun x a' W => ∃ Bx, W0.heap.size ≤ Bx ∧ Blk W Bx 188 (chEnc x.1).toArray ∧ a' = { tmps := #[.pointer (some ⟨b, 0, none⟩), .int .i64 tok, .pointer (some ⟨w.heap.size, 0, none⟩), .pointer (some ⟨w.heap.size + 1, 0, none⟩), .slice none 0 0, .int .i64 0, .pointer (some ⟨w.heap.size + 2, 0, none⟩), .pointer (some ⟨w.heap.size + 4, 0, none⟩), .pointer (some ⟨Bx, 0, none⟩), undef, undef, undef, undef, .map (some (w.heap.size + 3)), .pointer (some ⟨b, 0, none⟩), .pointer (some ⟨b, 0, none⟩), .pointer (some ⟨b, 1, none⟩), .pointer (some ⟨rb, 0, none⟩), .func (.func 169) #[] #[.pointer (some ⟨w.heap.size + 5, 0, none⟩)], .agg (chEnc x.1).toArray, undef, undef, undef, undef, undef, undef, undef, undef, undef, undef, undef, undef, undef, undef, undef, undef, undef, undef, undef, undef, undef, undef, undef, undef, undef, undef, undef, undef, undef, undef, undef, undef, undef, undef, undef, undef, undef, undef, undef, .bool false, .int .i64 tok, .bool false, undef, undef, .bool false, .int .i64 tok, .pointer (some ⟨b, 0, none⟩), .pointer (some ⟨b, 0, none⟩), .pointer (some ⟨b, 5, none⟩), .int .i64 s.horizon, .bool false, .bool false, .int .i64 tok, .pointer (some ⟨b, 0, none⟩), .pointer (some ⟨b, 0, none⟩), .pointer (some ⟨b, 4, none⟩), .int .i64 s.latest, .bool false, .bool false, undef, undef, undef], defers := [] })
    (fun x a' _ X Y row hs hg hr => by
      obtain ⟨Bx, h1, h2, h3⟩ := hs
      exact ⟨Bx, h1, blk_own h2 hg hr, h3⟩)
    ?assign ?body ?done ?stop
  case assign =>
    rintro l pre ⟨⟨tk, u⟩, hPx⟩ W K hI hK
    simp only [chEnc]
    gi_wp2
    exact hK _ _ ((KeepsOthers.alloc _ _).from _) ((Chg.refl _ _).alloc _) (hI.alloc _ _) ⟨W.heap.size, by have := hI.size; omega, Blk.new W 188 _, rfl⟩
  case body =>
    rintro l pre0 ⟨⟨tk, u⟩, hPx⟩ a' W hl2 ⟨r, hr⟩ hI ⟨Bx, hBx, bX, rfl⟩ hlt
    have hpl : pre0.length < 1000000 := by have := HLG.o; omega
    have HPM : Hd (unU (pre0 ++ [⟨(tk, u), hPx⟩]) = unU pre0 ++ [(tk, u)]) := hd (unU_snoc _ _)
    have hpm : (unU pre0).length = pre0.length := unU_len _
    obtain ⟨pre, hpre⟩ : ∃ p, unU pre0 = p := ⟨_, rfl⟩
    rw [hpre] at hI hpm HPM
    have hpl2 : pre.length < 1000000 := by omega
    clear hpre hpm
    simp only [chEnc] at bX ⊢
    obtain ⟨⟨A, c, hO1, hR1⟩, hSe, ⟨D, hM, hSn⟩, hbc, hbt, hbel, hsz⟩ := hI
    have hs0' := HS0.o
    have x0 : W.cell? ⟨Bx, 0, none⟩ = some (.int .i64 tk) := bX.at_ 0 rfl
    have x1 : W.cell? ⟨Bx, 1, none⟩ = some (.string (bs u)) := bX.at_ 1 rfl
    have s0 : W.cell? ⟨w.heap.size + 4, 0, none⟩ = some (.map (some (w.heap.size + 3))) := hSe.at_ 0 rfl
    have t0 : W.cell? ⟨w.heap.size + 1, 0, none⟩ = some (.int .i64 tok) := hbt.at_ 0 rfl
    obtain ⟨q, hq⟩ : ∃ q, chSeen pre u = q := ⟨_, rfl⟩
    have hqk : q ≤ 1000000 := by rw [← hq]; have := chSeen_le pre u; omega
    have hq2 : chSeen (pre ++ [(tk, u)]) u = q + 1 := by rw [chSeen_snoc, hq]; simp
    have HSEEN2 : Hd (SeenC (D.put (.string u) (.lit (.int .i64 ((q : Int) + 1)))) (pre ++ [(tk, u)])) := hd (by
      have := hSn.step (tk, u)
      simp only [hq] at this
      exact this)
    have HSEEN := hd hSn
    have HQ := hd hq
    have HQ2 := hd hq2
    have hul : (bs u).size ≤ maxLen := by rw [bs_size]; exact hPx
    have HLEN := hd hul
    have HM := hd hM
    have HMID : Hd (∀ w1 : World, w1.ownsMap Tryz.prog 9 (plainElem Tryz.prog 3) (w.heap.size + 3) (pre.length + 1) (D.put (.string u) (.lit (.int .i64 ((q : Int) + 1)))) → W.grownBy w1 (some (w.heap.size + 3)) → SMid w b tok s.ml pre (tk, u) W w1) := hd (fun w1 h1 h2 =>
      ⟨⟨A, c, hO1.grown h2 (by simp), hR1.keep (fun a ha => h2.block _ (hR1.lt ha) (fun e => by injection e with e; have : w.heap.size + 6 ≤ a.block := hR1.fp a ha; omega))⟩, hSe.grown h2 (by simp), ⟨_, h1, HSEEN2.o⟩, hbc.grown h2 (by simp <;> omega), hbt.grown h2 (by simp <;> omega), hbel.grown h2 hbel.size (fun k hk => by injection hk with hk; omega), hsz, (Chg.refl _ W).grown h2 (fun k hk => by injection hk with hk; exact .inl hk.symm)⟩)
    have HBXK : Hd (∀ w1 : World, W.grownBy w1 (some (w.heap.size + 3)) → Blk w1 Bx 188 #[.int .i64 tk, .string (bs u)]) := hd (fun w1 h => bX.grown h (by simp <;> omega))
    have hq0 : (0 : Int) ≤ (q : Int) := by omega
    have hqi : (q : Int) ≤ 1000000 := by omega
    have hwm : w.heap.size + 3 < W.heap.size := by omega
    have HSZ := hd hsz
    have HBX := hd hBx
    clear hM hSn hO1 hR1 hSe hbc hbt hbel hq hq2 hul hT hW0 hC0 hR0 hBr hs0 bX
    by_cases v1 : tk ≤ tok
    · have f1 : decide (tk ≤ tok) = true := by simpa using v1
      have HST : Hd (stepS s.ml tok pre (tk, u) = []) := hd (by unfold stepS; rw [if_pos (.inl v1)])
      clear v1
      gi_wp2_with (first | (refine wpListIn_lookup_own_int _ rfl _ _ 221 rfl 9 3 .i64 lawC Tryz.underlying221 Tryz.underlying3 (zeroC _) (w.heap.size + 3) _ _ rfl HM.o _ _ rfl (keyOf_string_mk Tryz.underlying9 HLEN.o) ?_; intro c1 hat1 hwc1; have hc1 := cntC_eq HSEEN.o HQ.o hat1; subst hc1; clear hat1 hwc1) | (refine wpListIn_mapUpdate_own _ rfl _ _ _ 221 rfl 9 3 lawC Tryz.underlying221 _ (w.heap.size + 3) pre.length _ rfl HM.o (by unfold maxLen; omega) _ _ _ rfl rfl (keyOf_string_mk Tryz.underlying9 HLEN.o) _ [] (plainElem_int Tryz.underlying3 (WalkArith.wf_i64 (by omega))) ?_; intro w1 hown1 hgrow1; have MID := hd (HMID.o w1 hown1 hgrow1); obtain ⟨c2, hrun2, hat2, hwc2⟩ := hown1.lookup_int lawC Tryz.underlying221 Tryz.underlying3 (zeroC _) (keyOf_string_mk Tryz.underlying9 HLEN.o); have hc2 := cntC_eq HSEEN2.o HQ2.o hat2; subst hc2; clear hat2 hwc2; have hbx := HBXK.o w1 hgrow1; have x0' := hbx.at_ 0 rfl; have x1' := hbx.at_ 1 rfl; have s0' := MID.o.seen.at_ 0 rfl; have t0' := MID.o.bt.at_ 0 rfl; have b0' := MID.o.bc.at_ 0 rfl; have l0 := MID.o.bc.lt; have l1 := hbx.lt; have HBX1 := hd hbx; clear hown1 hgrow1 hbx))
      have hfin := MID.o.ends HST.o
      rw [← HS0.o] at hfin
      exact ⟨hfin.1, hfin.2.1, by show SInv w b tok s.ml (unU _) _; rw [HPM.o]; exact hfin.2.2⟩
    · have f1 : decide (tk ≤ tok) = false := by simpa using v1
      by_cases v2 : 0 < q
      · have f2 : decide ((1 : Int) < (q : Int) + 1) = true := by simp; omega
        have HST : Hd (stepS s.ml tok pre (tk, u) = []) := hd (by unfold stepS; rw [if_pos (.inr (by rw [HQ.o]; exact v2))])
        clear v1 v2
        gi_wp2_with (first | (refine wpListIn_lookup_own_int _ rfl _ _ 221 rfl 9 3 .i64 lawC Tryz.underlying221 Tryz.underlying3 (zeroC _) (w.heap.size + 3) _ _ rfl HM.o _ _ rfl (keyOf_string_mk Tryz.underlying9 HLEN.o) ?_; intro c1 hat1 hwc1; have hc1 := cntC_eq HSEEN.o HQ.o hat1; subst hc1; clear hat1 hwc1) | (refine wpListIn_mapUpdate_own _ rfl _ _ _ 221 rfl 9 3 lawC Tryz.underlying221 _ (w.heap.size + 3) pre.length _ rfl HM.o (by unfold maxLen; omega) _ _ _ rfl rfl (keyOf_string_mk Tryz.underlying9 HLEN.o) _ [] (plainElem_int Tryz.underlying3 (WalkArith.wf_i64 (by omega))) ?_; intro w1 hown1 hgrow1; have MID := hd (HMID.o w1 hown1 hgrow1); obtain ⟨c2, hrun2, hat2, hwc2⟩ := hown1.lookup_int lawC Tryz.underlying221 Tryz.underlying3 (zeroC _) (keyOf_string_mk Tryz.underlying9 HLEN.o); have hc2 := cntC_eq HSEEN2.o HQ2.o hat2; subst hc2; clear hat2 hwc2; have hbx := HBXK.o w1 hgrow1; have x0' := hbx.at_ 0 rfl; have x1' := hbx.at_ 1 rfl; have s0' := MID.o.seen.at_ 0 rfl; have t0' := MID.o.bt.at_ 0 rfl; have b0' := MID.o.bc.at_ 0 rfl; have l0 := MID.o.bc.lt; have l1 := hbx.lt; have HBX1 := hd hbx; clear hown1 hgrow1 hbx))
        have hfin := MID.o.ends HST.o
        rw [← HS0.o] at hfin
        exact ⟨hfin.1, hfin.2.1, by show SInv w b tok s.ml (unU _) _; rw [HPM.o]; exact hfin.2.2⟩
      · have f2 : decide ((1 : Int) < (q : Int) + 1) = false := by simp; omega
        have HST : Hd (stepS s.ml tok pre (tk, u) = [itAt s.ml (tk, u)]) := hd (by unfold stepS; rw [if_neg (by rw [HQ.o]; simp; omega)])
        clear v1 v2
        gi_wp2_with (first | (refine wpListIn_lookup_own_int _ rfl _ _ 221 rfl 9 3 .i64 lawC Tryz.underlying221 Tryz.underlying3 (zeroC _) (w.heap.size + 3) _ _ rfl HM.o _ _ rfl (keyOf_string_mk Tryz.underlying9 HLEN.o) ?_; intro c1 hat1 hwc1; have hc1 := cntC_eq HSEEN.o HQ.o hat1; subst hc1; clear hat1 hwc1) | (refine wpListIn_mapUpdate_own _ rfl _ _ _ 221 rfl 9 3 lawC Tryz.underlying221 _ (w.heap.size + 3) pre.length _ rfl HM.o (by unfold maxLen; omega) _ _ _ rfl rfl (keyOf_string_mk Tryz.underlying9 HLEN.o) _ [] (plainElem_int Tryz.underlying3 (WalkArith.wf_i64 (by omega))) ?_; intro w1 hown1 hgrow1; have MID := hd (HMID.o w1 hown1 hgrow1); obtain ⟨c2, hrun2, hat2, hwc2⟩ := hown1.lookup_int lawC Tryz.underlying221 Tryz.underlying3 (zeroC _) (keyOf_string_mk Tryz.underlying9 HLEN.o); have hc2 := cntC_eq HSEEN2.o HQ2.o hat2; subst hc2; clear hat2 hwc2; have hbx := HBXK.o w1 hgrow1; have x0' := hbx.at_ 0 rfl; have x1' := hbx.at_ 1 rfl; have s0' := MID.o.seen.at_ 0 rfl; have t0' := MID.o.bt.at_ 0 rfl; have b0' := MID.o.bc.at_ 0 rfl; have l0 := MID.o.bc.lt; have l1 := hbx.lt; have HBX1 := hd hbx; clear hown1 hgrow1 hbx))
        have HGET := hd (fun W' hb => cget_calls W' S b s u (HCOL.o W' hb) HL.o)
        have hbi : Blk (w1.alloc (.cells #[.string (bs u), .int .i64 tk, .bool true, .string ⟨#[]⟩] 63)) w1.heap.size 63 #[.string (bs u), .int .i64 tk, .bool true, .string ⟨#[]⟩] := Blk.new _ _ _
        have HBI := hd hbi
        have hba : Below w1.heap.size w1 (w1.alloc (.cells #[.string (bs u), .int .i64 tk, .bool true, .string ⟨#[]⟩] 63)) := (Below.refl _ w1).alloc (Nat.le_refl _) _
        have HBA := hd hba
        clear hbi hba
        refine ⟨trivial, (CallsIn.inRound l (callsIn_wide.2 (HGET.o _ (MID.o.below.alloc MID.o.below.size _)))).mono ?_⟩
        rintro e w2 ⟨rfl, hbe⟩
        have hb2 : Below w1.heap.size w1 w2 := HBA.o.trans (hbe.mono (by simp))
        have hbi2 := HBI.o.below hbe (by simp)
        have MID2 := hd (MID.o.bel hb2 (fun D h => h.kept (gb_of_below hb2) (by simp)))
        have hx2 := HBX1.o.below hb2 l1
        have x0'' := hx2.at_ 0 rfl
        have x1'' := hx2.at_ 1 rfl
        have i0' := hbi2.at_ 0 rfl
        have i1' := hbi2.at_ 1 rfl
        have i2' := hbi2.at_ 2 rfl
        have i3' := hbi2.at_ 3 rfl
        have if0 := hbi2.frozen 0
        have if1 := hbi2.frozen 1
        have if2 := hbi2.frozen 2
        have if3 := hbi2.frozen 3
        have HBI2 := hd hbi2
        have HB2 := hd hb2
        have hl2' := hbi2.lt
        clear hbe hb2 hbi2 hx2 x0' x1' s0' t0' b0' x0 x1 s0 t0
        obtain ⟨A2, c2, hO1, hR1⟩ := MID.o.out
        have HAF : Hd (∀ a, A2 = some a → a.block ≠ w1.heap.size) := hd (fun a ha => by have := hR1.lt ha; omega)
        have hwl2 : w.heap.size + 2 < w1.heap.size := hO1.lt
        have HO2 := hd (hO1.below HB2.o hO1.lt)
        have HR2 := hd (hR1.below HB2.o)
        have HNF : Hd (¬ Of A2 (w.heap.size + 2)) := hd (fun hk => by have h1 : w.heap.size + 6 ≤ w.heap.size + 2 := hR1.of_sub _ hk; omega)
        have HWK : Hd (∀ k o, Of A2 k → W.heap[k]? = some o → o.isCells = true) := hd (fun k o hk ho => by
          have h1 : w.heap.size + 6 ≤ k := hR1.of_sub k hk
          have hkl := (Array.getElem?_eq_some_iff.1 ho).1
          have h2 := MID.o.chg.block k hkl (fun e => by omega)
          exact of_cells hR1 k o hk (h2.trans ho))
        have HWO : Hd (∀ o, W.heap[w.heap.size + 2]? = some o → o.isCells = true) := hd (fun o ho => by
          have h2 := MID.o.chg.block (w.heap.size + 2) (Array.getElem?_eq_some_iff.1 ho).1 (fun e => by omega)
          exact blk_cells hO1 o (h2.trans ho))
        have hpo := outP_len s.ml tok pre.length pre rfl
        obtain ⟨n, hno⟩ : ∃ n, (outP s.ml tok pre).length = n := ⟨_, rfl⟩
        have HNO := hd hno
        have o2 : w2.cell? ⟨w.heap.size + 2, 0, none⟩ = some (.slice A2 n c2) := by rw [← hno]; exact HO2.o.at_ 0 rfl
        have of2 := HO2.o.frozen 0
        have hmm : n + 1 ≤ maxLen := by unfold maxLen; omega
        have hby : (n + 1) * 48 ≤ 140737488355328 := by omega
        have hne2 : w.heap.size + 2 ≠ w1.heap.size := by omega
        clear hO1 hR1 hno
        cases hth : hasM s.ml u with
        | true =>
          have HST2 : Hd (stepS s.ml tok pre (tk, u) = [⟨u, verM s.ml u, false, txtM s.ml u⟩]) := hd (by rw [HST.o]; simp [itAt, hth])
          clear hth
          have hbz : Below w1.heap.size w1 ((((w2.setCell ⟨w1.heap.size, 0, none⟩ (.string (bs u))).setCell ⟨w1.heap.size, 1, none⟩ (.int .i64 (verM s.ml u))).setCell ⟨w1.heap.size, 2, none⟩ (.bool false)).setCell ⟨w1.heap.size, 3, none⟩ (.string (bs (txtM s.ml u)))) := ((((HB2.o.setCell (Nat.le_refl _) _).setCell (Nat.le_refl _) _).setCell (Nat.le_refl _) _).setCell (Nat.le_refl _) _)
          have MID3 : Hd (SMid w b tok s.ml pre (tk, u) W ((((w2.setCell ⟨w1.heap.size, 0, none⟩ (.string (bs u))).setCell ⟨w1.heap.size, 1, none⟩ (.int .i64 (verM s.ml u))).setCell ⟨w1.heap.size, 2, none⟩ (.bool false)).setCell ⟨w1.heap.size, 3, none⟩ (.string (bs (txtM s.ml u))))) := hd (MID.o.bel hbz (fun D h => h.kept (gb_of_below hbz) (by simp)))
          have hOz : Blk ((((w2.setCell ⟨w1.heap.size, 0, none⟩ (.string (bs u))).setCell ⟨w1.heap.size, 1, none⟩ (.int .i64 (verM s.ml u))).setCell ⟨w1.heap.size, 2, none⟩ (.bool false)).setCell ⟨w1.heap.size, 3, none⟩ (.string (bs (txtM s.ml u)))) (w.heap.size + 2) 37 #[.slice A2 (outP s.ml tok pre).length c2] := ((((HO2.o.far (p := ⟨w1.heap.size, 0, none⟩) (by show w.heap.size + 2 ≠ w1.heap.size; omega) _).far (p := ⟨w1.heap.size, 1, none⟩) (by show w.heap.size + 2 ≠ w1.heap.size; omega) _).far (p := ⟨w1.heap.size, 2, none⟩) (by show w.heap.size + 2 ≠ w1.heap.size; omega) _).far (p := ⟨w1.heap.size, 3, none⟩) (by show w.heap.size + 2 ≠ w1.heap.size; omega) _)
          have hRz : Row ((((w2.setCell ⟨w1.heap.size, 0, none⟩ (.string (bs u))).setCell ⟨w1.heap.size, 1, none⟩ (.int .i64 (verM s.ml u))).setCell ⟨w1.heap.size, 2, none⟩ (.bool false)).setCell ⟨w1.heap.size, 3, none⟩ (.string (bs (txtM s.ml u)))) (From (w.heap.size + 6)) 63 4 A2 (outP s.ml tok pre).length c2 (itsEnc (outP s.ml tok pre)) := ((((HR2.o.far (p := ⟨w1.heap.size, 0, none⟩) HAF.o _).far (p := ⟨w1.heap.size, 1, none⟩) HAF.o _).far (p := ⟨w1.heap.size, 2, none⟩) HAF.o _).far (p := ⟨w1.heap.size, 3, none⟩) HAF.o _)
          have HRz := hd hRz
          have HOz := hd hOz
          have HSz : Hd (w2.heap.size = ((((w2.setCell ⟨w1.heap.size, 0, none⟩ (.string (bs u))).setCell ⟨w1.heap.size, 1, none⟩ (.int .i64 (verM s.ml u))).setCell ⟨w1.heap.size, 2, none⟩ (.bool false)).setCell ⟨w1.heap.size, 3, none⟩ (.string (bs (txtM s.ml u)))).heap.size) := hd (by simp [size_setCell])
          have HFIN := hd (fun (A3 : Option Addr) (c3 : Nat) (w4 : World) (k1 : Row w4 _ _ _ A3 _ c3 _) k2 => MID3.o.app HST2.o (A2 := A3) (c2 := c3) (w2 := w4) (itEnc ⟨u, verM s.ml u, false, txtM s.ml u⟩).toArray 63 hOz hRz k1 k2 HWK.o HWO.o)
          rw [HNO.o] at HFIN HRz HOz
          clear hbz hOz hRz
          gi_wp2_with (gi_at_builtin; refine wpListIn_append_row rfl _ _ 37 rfl (Of A2) 63 i0 (.agg #[.string ⟨#[]⟩, .int .i64 0, .bool false, .string ⟨#[]⟩]) 4 48 Tryz.underlying37 hi hz0 hz1 hz2 rfl A2 n c2 (itsEnc (outP s.ml tok pre)) rfl (HRz.o.own_.alloc _) ⟨w2.heap.size, 0, none⟩ 1 1 [.string (bs u), .int .i64 (verM s.ml u), .bool false, .string (bs (txtM s.ml u))] rfl rfl (cells_at (Blk.new_ _ _ HSz.o 63 _) rfl) (itEnc_one ⟨u, verM s.ml u, false, txtM s.ml u⟩) (by omega) hmm hby ?_; intro A3 c3 w4 hown2 hchg2; have hb4 := (HOz.o.alloc _).chg hchg2 HNF.o; have q1 := hb4.at_ 0 rfl; have q2 := hb4.frozen 0; have HW4 := hd hown2; have HC4 := hd hchg2; clear hb4 hown2 hchg2)
          have hfin := HFIN.o A3 c3 w4 HW4.o HC4.o
          rw [← HS0.o] at hfin
          exact ⟨hfin.1, hfin.2.1, by show SInv w b tok s.ml (unU _) _; rw [HPM.o]; exact hfin.2.2⟩
        | false =>
          have HST2 : Hd (stepS s.ml tok pre (tk, u) = [⟨u, tk, true, []⟩]) := hd (by rw [HST.o]; simp [itAt, hth])
          clear hth
          have hbz : Below w1.heap.size w1 w2 := HB2.o
          have MID3 : Hd (SMid w b tok s.ml pre (tk, u) W w2) := hd (MID.o.bel hbz (fun D h => h.kept (gb_of_below hbz) (by simp)))
          have hOz : Blk w2 (w.heap.size + 2) 37 #[.slice A2 (outP s.ml tok pre).length c2] := HO2.o
          have hRz : Row w2 (From (w.heap.size + 6)) 63 4 A2 (outP s.ml tok pre).length c2 (itsEnc (outP s.ml tok pre)) := HR2.o
          have HRz := hd hRz
          have HOz := hd hOz
          have HFIN := hd (fun (A3 : Option Addr) (c3 : Nat) (w4 : World) (k1 : Row w4 _ _ _ A3 _ c3 _) k2 => MID3.o.app HST2.o (A2 := A3) (c2 := c3) (w2 := w4) (itEnc ⟨u, tk, true, []⟩).toArray 63 hOz hRz k1 k2 HWK.o HWO.o)
          rw [HNO.o] at HFIN HRz HOz
          have HONE : Hd (∀ v ∈ [Value.string (bs u), .int .i64 tk, .bool true, .string ⟨#[]⟩], v.oneCell' = true) := hd (itEnc_one ⟨u, tk, true, []⟩)
          clear hbz hOz hRz
          gi_wp2_with (gi_at_builtin; refine wpListIn_append_row rfl _ _ 37 rfl (Of A2) 63 i0 (.agg #[.string ⟨#[]⟩, .int .i64 0, .bool false, .string ⟨#[]⟩]) 4 48 Tryz.underlying37 hi hz0 hz1 hz2 rfl A2 n c2 (itsEnc (outP s.ml tok pre)) rfl (HRz.o.own_.alloc _) ⟨w2.heap.size, 0, none⟩ 1 1 [.string (bs u), .int .i64 tk, .bool true, .string ⟨#[]⟩] rfl rfl (cells_at (Blk.new_ _ _ rfl 63 _) rfl) HONE.o (by omega) hmm hby ?_; intro A3 c3 w4 hown2 hchg2; have hb4 := (HOz.o.alloc _).chg hchg2 HNF.o; have q1 := hb4.at_ 0 rfl; have q2 := hb4.frozen 0; have HW4 := hd hown2; have HC4 := hd hchg2; clear hb4 hown2 hchg2)
          have hfin := HFIN.o A3 c3 w4 HW4.o HC4.o
          rw [← HS0.o] at hfin
          exact ⟨hfin.1, hfin.2.1, by show SInv w b tok s.ml (unU _) _; rw [HPM.o]; exact hfin.2.2⟩
  case done =>
    rintro D0 ys W hD rfl hI hK
    obtain ⟨⟨A, c, hO1, hR1⟩, hSe, ⟨D, hM, hSn⟩, hbc, hbt, hbel, hsz⟩ := hI
    have e1 : unU rl.reverse = s.log.reverse := by rw [unU_rev, HRL.o]
    rw [e1] at hO1 hR1
    have hs0' := HS0.o
    have hpo := outP_len s.ml tok s.log.length s.log.reverse (by simp)
    obtain ⟨n, hno⟩ : ∃ n, (outP s.ml tok s.log.reverse).length = n := ⟨_, rfl⟩
    rw [hno] at hO1 hR1 hpo
    have c0 := hO1.at_ 0 rfl
    have HR1 := hd hR1
    have HO1 := hd hO1
    have HB1 := hd hbel
    have HK := hd hK
    have HD := hd hD
    have HNO := hd hno
    have HA : Hd (∀ q, Of A q → w.heap.size + 6 ≤ q) := hd (fun q hq => hR1.of_sub q hq)
    clear hR1 hO1 hbel hSe hM hSn hbc hbt hno
    go_wp2_with fail
    refine (sortIt_holds _ (Of A) A n c (outP s.ml tok s.log.reverse) HNO.o.symm HR1.o.own_ (by omega)).mono ?_
    rintro e w2 ⟨rfl, l', hp, hs, hr2, hc2⟩
    have hlen : l'.length = n := by rw [hp.length_eq, HNO.o]
    have o2 := (HO1.o.chg hc2 (fun hq => by have := HA.o _ hq; omega)).at_ 0 rfl
    have HR2 := hd hr2
    have HC2 := hd hc2
    have HP := hd hp
    have HS := hd hs
    have HLEN := hd hlen
    have HK2 : Hd (w2.heap[D0]? = some (.deferred (some []))) := hd ((hc2.block D0 (Array.getElem?_eq_some_iff.1 HK.o).1 (fun hq => by
      have := of_cells HR1.o D0 _ hq HK.o
      cases this)).trans HK.o)
    clear hp hs hr2 hc2 hlen c0
    go_wp2
    refine ⟨by simp, .inl ⟨_, _, rfl, run_takeDeferred HK2.o, ?_⟩⟩
    obtain ⟨g1, g2⟩ := put_own (o' := .deferred none) HK2.o rfl
    refine ⟨_, results_tmp2 rfl _ _ _, l', A, c, ?_, ⟨HP.o, HS.o⟩, ?_, ?_⟩
    · show Ending.returned (.tuple #[.slice A n c, .int .i64 0]) = _
      rw [HLEN.o]
    · rw [HLEN.o]
      refine (row_own HR2.o g1 g2).mono (fun q hq => ?_)
      have := HA.o q hq
      show w.heap.size ≤ q
      omega
    · exact below_own (HB1.o.trans (HC2.o.below (fun q hq => by have := HA.o q hq; omega) HB1.o.size)) (Nat.le_refl _) (by have := HD.o; omega) g1 g2
  case stop =>
    rintro D c pre W _ _ h _
    exact h.elim

end Go.Proofs.YtfacfdjapjhpeaaGreatDoor
namespace Go.Proofs.YtfacfdjapjhpeaaGreatDoor
open Go.RowKit Go.Lib

/-- What Since says. -/
def SinceIs (s : Cs) (tok : Int) (l' : List It) (err : Int) : Prop :=
  (tok = 0 ∧ err = 0 ∧ SortedOf (liveL s.ml) l') ∨ (tok ≠ 0 ∧ s.bad tok = true ∧ err = 8 ∧ l' = []) ∨ (tok ≠ 0 ∧ s.bad tok = false ∧ err = 0 ∧ SortedOf (outP s.ml tok s.log.reverse) l')
theorem since_calls (w : World) (S : Nat → Prop) (b : Nat) (s : Cs) (tok : Int) (h : ColR w S b s) (hl : s.ml.length ≤ 1000000) (hlg : s.log.length ≤ 1000000) (hu : ∀ x ∈ s.log, x.2.length ≤ maxLen) :
    Calls Tryz.prog 125 #[.pointer (some ⟨b, 0, none⟩), .int .i64 tok] w fun e w' => ∃ l' err A c, e = .returned (.tuple #[.slice A l'.length c, .int .i64 err]) ∧ SinceIs s tok l' err ∧ Row w' (From w.heap.size) 63 4 A l'.length c (itsEnc l') ∧ Below w.heap.size w w' := by
  by_cases h0 : tok = 0
  · subst h0
    exact (since_zero w S b s h hl).mono fun e w' ⟨l', A, c, h1, h2, h3, h4⟩ => ⟨l', 0, A, c, h1, .inl ⟨rfl, rfl, h2⟩, h3, h4⟩
  · cases hb : s.bad tok with
    | true => exact (since_bad w S b s tok h h0 hb).mono fun e w' ⟨h1, h2⟩ => ⟨[], 8, none, 0, h1, .inr (.inl ⟨h0, hb, rfl, rfl⟩), Row.nil _ _ _ _, h2⟩
    | false => exact (since_some w S b s tok h hl hlg hu h0 hb).mono fun e w' ⟨l', A, c, h1, h2, h3, h4⟩ => ⟨l', 0, A, c, h1, .inr (.inr ⟨h0, hb, rfl, h2⟩), h3, h4⟩

end Go.Proofs.YtfacfdjapjhpeaaGreatDoor
namespace Go.Proofs.YtfacfdjapjhpeaaGreatDoor
open Go.RowKit Go.Lib

/-- What the reference gathers. -/
def seenR (out : List It) (u : List UInt8) : Bool := out.any fun y => y.uid == u
def stepR (ml : ML Ce) (tok : Int) (out : List It) (x : Ch) : List It := if x.1 ≤ tok ∨ seenR out x.2 = true then out else out ++ [itAt ml x]
def outR (ml : ML Ce) (tok : Int) (l : List Ch) : List It := l.foldl (stepR ml tok) []
theorem outR_snoc (ml : ML Ce) (tok : Int) (l : List Ch) (x : Ch) : outR ml tok (l ++ [x]) = stepR ml tok (outR ml tok l) x := by simp [outR]
def RSinceIs (s : Cs) (tok : Int) (l' : List It) (err : Int) : Prop :=
  (tok = 0 ∧ err = 0 ∧ SortedOf (liveL s.ml) l') ∨ (tok ≠ 0 ∧ s.bad tok = true ∧ err = 8 ∧ l' = []) ∨ (tok ≠ 0 ∧ s.bad tok = false ∧ err = 0 ∧ SortedOf (outR s.ml tok s.log.reverse) l')
end Go.Proofs.YtfacfdjapjhpeaaGreatDoor
namespace Go.Proofs.YtfacfdjapjhpeaaGreatDoor
open Go.RowKit Go.Lib

/-- Sorted lists of distinct items are the same. -/
theorem sorted_same {l l1 l2 : List It} (h1 : SortedOf l l1) (h2 : SortedOf l l2) (hu : ∀ x ∈ l, ∀ y ∈ l, x.uid = y.uid → x = y) : l1 = l2 := by
  refine List.Perm.eq_of_pairwise (le := fun x y => itLt y x = false) ?_ h1.2 h2.2 (h1.1.trans h2.1.symm)
  intro x y hx hy hxy hyx
  refine hu x (h1.1.mem_iff.1 hx) y (h2.1.mem_iff.1 hy) ?_
  by_cases hv : x.ver = y.ver
  · refine Decidable.byContradiction fun hne => ?_
    have k1 : ¬ itLt x y = true := by simp [hyx]
    have k2 : ¬ itLt y x = true := by simp [hxy]
    rw [itLt_eq] at k1 k2
    have a1 : ¬ compareBytes x.uid y.uid < 0 := fun h => k1 (.inr ⟨hv, h⟩)
    exact k2 (.inr ⟨hv.symm, cmp_not a1 hne⟩)
  · have k1 : ¬ itLt x y = true := by simp [hyx]
    have k2 : ¬ itLt y x = true := by simp [hxy]
    rw [itLt_eq] at k1 k2
    have : ¬ x.ver < y.ver := fun h => k1 (.inl h)
    have : ¬ y.ver < x.ver := fun h => k2 (.inl h)
    omega

end Go.Proofs.YtfacfdjapjhpeaaGreatDoor
namespace Go.Proofs.YtfacfdjapjhpeaaGreatDoor
open Go.RowKit

def opsE (l : List OpV) : List Value := l.flatMap opEnc
theorem opsE_at (l : List OpV) (i : Nat) (h : i < l.length) (j : Nat) (hj : j < 5) : (opsE l)[i * 5 + j]? = (opEnc l[i])[j]? := flat_at opEnc 5 opEnc_len l i h j hj
end Go.Proofs.YtfacfdjapjhpeaaGreatDoor
namespace Go.Proofs.YtfacfdjapjhpeaaGreatDoor
open Go.RowKit

end Go.Proofs.YtfacfdjapjhpeaaGreatDoor
namespace Go.Proofs.YtfacfdjapjhpeaaGreatDoor
open Go.RowKit Go.Lib

/-- How great it may be. -/
structure Cs.Small (s : Cs) (k : Nat) : Prop where
  ml : s.ml.length ≤ k
  log : s.log.length ≤ k
  bytes : bytesM s.ml ≤ 1000 * (k : Int)

end Go.Proofs.YtfacfdjapjhpeaaGreatDoor
namespace Go.Proofs.YtfacfdjapjhpeaaGreatDoor
open Go.RowKit Go.Lib

theorem ind_snoc {α : Type} {P : List α → Prop} (h0 : P []) (h1 : ∀ l x, P l → P (l ++ [x])) : ∀ l, P l := by
  have : ∀ (k : Nat) (l : List α), l.length = k → P l := by
    intro k
    induction k with
    | zero => intro l h; obtain rfl : l = [] := List.eq_nil_of_length_eq_zero h; exact h0
    | succ k ih =>
      intro l h
      obtain ⟨l', x, rfl⟩ : ∃ l' x, l = l' ++ [x] := ⟨l.dropLast, l.getLast (by rintro rfl; simp at h), (List.dropLast_concat_getLast _).symm⟩
      exact h1 l' x (ih l' (by simpa using h))
  exact fun l => this _ l rfl
theorem itAt_uid (ml : ML Ce) (x : Ch) : (itAt ml x).uid = x.2 := by
  unfold itAt
  split <;> rfl
theorem seenR_app (a : List It) (x : It) (u : List UInt8) : seenR (a ++ [x]) u = (seenR a u || x.uid == u) := by simp [seenR, List.any_append]
theorem seen_outR (ml : ML Ce) (tok : Int) : ∀ l : List Ch, (∀ x ∈ l, tok < x.1) → ∀ u, seenR (outR ml tok l) u = decide (0 < chSeen l u) := by
  refine ind_snoc (fun _ _ => by simp [outR, seenR, chSeen]) fun l x ih h u => ?_
  have hx := h x (by simp)
  have hl := ih (fun y hy => h y (by simp [hy]))
  rw [outR_snoc, chSeen_snoc]
  unfold stepR
  by_cases hs : seenR (outR ml tok l) x.2 = true
  · rw [if_pos (.inr hs), hl]
    have h2 := hl x.2
    rw [hs] at h2
    have h3 : 0 < chSeen l x.2 := by simpa using h2.symm
    by_cases he : x.2 = u
    · subst he; simp [h3]
    · simp [he]
  · rw [if_neg (by rintro (h | h); omega; exact hs h), seenR_app, hl, itAt_uid]
    by_cases he : x.2 = u
    · subst he; simp
    · simp [he]
/-- Tokens that fall (the log from behind). -/
def Falls (l : List Ch) : Prop := l.Pairwise fun x y => y.1 ≤ x.1
theorem outP_eq (ml : ML Ce) (tok : Int) : ∀ l : List Ch, Falls l → outP ml tok l = outR ml tok l := by
  refine ind_snoc (fun _ => by simp [outP, outS, outR]) fun l x ih h => ?_
  have h' := List.pairwise_append.1 h
  rw [outP_snoc, outR_snoc, ih h'.1]
  unfold stepS stepR
  by_cases c : x.1 ≤ tok
  · rw [if_pos (.inl c), if_pos (.inl c), List.append_nil]
  · have hs := seen_outR ml tok l (fun y hy => by have := h'.2.2 y hy x (by simp); omega) x.2
    by_cases c2 : 0 < chSeen l x.2
    · rw [if_pos (.inr c2), if_pos (.inr (by rw [hs]; simpa using c2)), List.append_nil]
    · rw [if_neg (by rintro (h | h); exact c h; exact c2 h), if_neg (by rintro (h | h); exact c h; rw [hs] at h; exact c2 (by simpa using h))]
theorem outR_uniq (ml : ML Ce) (tok : Int) : ∀ l : List Ch, ∀ x ∈ outR ml tok l, ∀ y ∈ outR ml tok l, x.uid = y.uid → x = y := by
  refine ind_snoc (fun x hx => by simp [outR] at hx) fun l z ih x hx y hy hu => ?_
  rw [outR_snoc] at hx hy
  unfold stepR at hx hy
  by_cases c : z.1 ≤ tok ∨ seenR (outR ml tok l) z.2 = true
  · rw [if_pos c] at hx hy
    exact ih x hx y hy hu
  · rw [if_neg c] at hx hy
    have hno : ∀ y ∈ outR ml tok l, y.uid ≠ z.2 := fun y hy he => c (.inr (by
      unfold seenR
      rw [List.any_eq_true]
      exact ⟨y, hy, by simpa using he⟩))
    rcases List.mem_append.1 hx with hx | hx <;> rcases List.mem_append.1 hy with hy | hy
    · exact ih x hx y hy hu
    · rw [List.mem_singleton] at hy
      subst hy
      rw [itAt_uid] at hu
      exact absurd hu (hno x hx)
    · rw [List.mem_singleton] at hx
      subst hx
      rw [itAt_uid] at hu
      exact absurd hu.symm (hno y hy)
    · rw [List.mem_singleton] at hx hy
      rw [hx, hy]
theorem live_uniq {ml : ML Ce} (hr : Rising ml) : ∀ x ∈ liveL ml, ∀ y ∈ liveL ml, x.uid = y.uid → x = y := by
  intro x hx y hy hu
  unfold liveL at hx hy
  obtain ⟨a, ha, rfl⟩ := List.mem_map.1 hx
  obtain ⟨b, hb, rfl⟩ := List.mem_map.1 hy
  obtain ⟨i, hi, rfl⟩ := List.getElem_of_mem ha
  obtain ⟨j, hj, rfl⟩ := List.getElem_of_mem hb
  have hp := List.pairwise_iff_getElem.1 hr
  have hk : ml[i].1 = ml[j].1 := hu
  by_cases hij : i = j
  · subst hij; rfl
  · exfalso
    by_cases h : i < j
    · have := hp i j hi hj h
      rw [hk, cmp_self] at this
      omega
    · have := hp j i hj hi (by omega)
      rw [hk, cmp_self] at this
      omega

/-- Tokens rise in the log, up to Latest. -/
structure Cs.Tok (s : Cs) : Prop where
  rise : s.log.Pairwise fun x y => x.1 ≤ y.1
  le : ∀ x ∈ s.log, x.1 ≤ s.latest
theorem Cs.new_tok (birth cards log : Int) : (Cs.new birth cards log).Tok := ⟨List.Pairwise.nil, fun _ h => by cases h⟩
theorem pushL_sub {cap : Int} {l : List Ch} {x y : Ch} (h : y ∈ pushL cap l x) : y ∈ l ∨ y = x := by
  unfold pushL at h
  rcases List.mem_append.1 h with h | h
  · left
    split at h
    · exact List.mem_of_mem_drop h
    · exact h
  · right
    simpa using h
theorem Cs.step_tok {s : Cs} (h : s.Tok) (o : OpV) (t : Int) : (s.step o t).2.Tok := by
  unfold Cs.step
  cases hn : s.no o t with
  | true => exact h
  | false =>
    have ht : s.latest ≤ t := by
      unfold Cs.no at hn
      simp only [Bool.or_eq_false_iff, decide_eq_false_iff_not] at hn
      omega
    refine ⟨?_, fun x hx => ?_⟩
    · show (pushL s.cap s.log (t, o.uid)).Pairwise _
      unfold pushL
      refine List.pairwise_append.2 ⟨?_, by simp, fun x hx y hy => ?_⟩
      · split
        · exact h.rise.sublist (List.drop_sublist _ _)
        · exact h.rise
      · rw [List.mem_singleton] at hy
        subst hy
        have hm : x ∈ s.log := by
          split at hx
          · exact List.mem_of_mem_drop hx
          · exact hx
        have := h.le x hm
        show x.1 ≤ t
        omega
    · rcases pushL_sub hx with h2 | h2
      · have := h.le x h2
        show x.1 ≤ t
        omega
      · subst h2
        exact Int.le_refl _
theorem Cs.Tok.falls {s : Cs} (h : s.Tok) : Falls s.log.reverse := List.pairwise_reverse.2 h.rise

theorem since_agree {s : Cs} (hr : Rising s.ml) (ht : s.Tok) {tok : Int} {l1 l2 : List It} {e1 e2 : Int} (h1 : SinceIs s tok l1 e1) (h2 : RSinceIs s tok l2 e2) : e1 = e2 ∧ l1 = l2 := by
  rcases h1 with ⟨a, b, c⟩ | ⟨a, b, c, d⟩ | ⟨a, b, c, d⟩ <;> rcases h2 with ⟨a', b', c'⟩ | ⟨a', b', c', d'⟩ | ⟨a', b', c', d'⟩
  · exact ⟨by rw [b, b'], sorted_same c c' (live_uniq hr)⟩
  · exact absurd a a'
  · exact absurd a a'
  · exact absurd a' a
  · exact ⟨by rw [c, c'], by rw [d, d']⟩
  · rw [b] at b'; cases b'
  · exact absurd a' a
  · rw [b] at b'; cases b'
  · rw [outP_eq _ _ _ ht.falls] at d
    exact ⟨by rw [c, c'], sorted_same d d' (outR_uniq _ _ _)⟩

end Go.Proofs.YtfacfdjapjhpeaaGreatDoor
