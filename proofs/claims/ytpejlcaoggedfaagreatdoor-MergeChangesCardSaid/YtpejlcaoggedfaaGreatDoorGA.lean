/-
  The shelf's contracts at this program, in plain words: what the kit's own laying commands write for it, pasted by a program.
-/
import Derived.Shelf.Strings.Builder1
import Derived.Shelf.LaysM
import Derived.Test.YtpejlcaoggedfaaGreatDoorProg
import Derived.Test.YtpejlcaoggedfaaGreatDoorGC
import Derived.Deep.QuietTactic
import Derived.Test.YtpejlcaoggedfaaGreatDoorRowLaw
import Derived.Deep.Upon
set_option linter.unusedVariables false
set_option linter.unusedSimpArgs false
namespace Go.Proofs.YtpejlcaoggedfaaGreatDoor
open Go.Shelf
def lays166_ren : Go.Shelf.Ren := ⟨fun | 166 => 60 | 240 => 93 | 276 => 111 | n => n, fun | 70 => 69 | 9 => 9 | 3 => 3 | 75 => 74 | 0 => 0 | 72 => 72 | 37 => 70 | 4 => 4 | 164 => 117 | 80 => 79 | 5 => 5 | n => n, fun | n => n⟩
theorem lays166 : Go.Proofs.Lays.n166 Tryz.prog lays166_ren := {
  mixed := by kernel_rfl
  f166 := Tryz.func60.trans (congrArg some (by kernel_rfl))
  f240 := Tryz.func93.trans (congrArg some (by kernel_rfl))
  f276 := Tryz.func111.trans (congrArg some (by kernel_rfl))
  t0 := Tryz.underlying0
  a0 := Tryz.isAgg0
  z0 := Tryz.sizeOf0
  v0 := Tryz.zeroValue0
  t3 := Tryz.underlying3
  a3 := Tryz.isAgg3
  z3 := Tryz.sizeOf3
  v3 := Tryz.zeroValue3
  t4 := Tryz.underlying4
  a4 := Tryz.isAgg4
  z4 := Tryz.sizeOf4
  v4 := Tryz.zeroValue4
  t9 := Tryz.underlying9
  a9 := Tryz.isAgg9
  z9 := Tryz.sizeOf9
  v9 := Tryz.zeroValue9
  t20 := Tryz.underlying20
  a20 := Tryz.isAgg20
  z20 := Tryz.sizeOf20
  v20 := Tryz.zeroValue20
  t37 := Tryz.underlying70
  a37 := Tryz.isAgg70
  z37 := Tryz.sizeOf70
  v37 := Tryz.zeroValue70
  t70 := Tryz.underlying69
  a70 := Tryz.isAgg69
  z70 := Tryz.sizeOf69
  v70 := Tryz.zeroValue69
  t72 := Tryz.underlying72
  a72 := Tryz.isAgg72
  z72 := Tryz.sizeOf72
  v72 := Tryz.zeroValue72
  t75 := Tryz.underlying74
  a75 := Tryz.isAgg74
  z75 := Tryz.sizeOf74
  v75 := Tryz.zeroValue74
  t164 := Tryz.underlying117
  a164 := Tryz.isAgg117
  z164 := Tryz.sizeOf117
  v164 := Tryz.zeroValue117 }
def lays167_ren : Go.Shelf.Ren := ⟨fun | 167 => 62 | 240 => 93 | 276 => 111 | n => n, fun | 70 => 69 | 5 => 5 | 75 => 74 | 0 => 0 | 72 => 72 | 37 => 70 | 4 => 4 | 164 => 117 | 80 => 79 | 9 => 9 | n => n, fun | n => n⟩
theorem lays167 : Go.Proofs.Lays.n167 Tryz.prog lays167_ren := {
  mixed := by kernel_rfl
  f167 := Tryz.func62.trans (congrArg some (by kernel_rfl))
  f240 := Tryz.func93.trans (congrArg some (by kernel_rfl))
  f276 := Tryz.func111.trans (congrArg some (by kernel_rfl))
  t0 := Tryz.underlying0
  a0 := Tryz.isAgg0
  z0 := Tryz.sizeOf0
  v0 := Tryz.zeroValue0
  t4 := Tryz.underlying4
  a4 := Tryz.isAgg4
  z4 := Tryz.sizeOf4
  v4 := Tryz.zeroValue4
  t5 := Tryz.underlying5
  a5 := Tryz.isAgg5
  z5 := Tryz.sizeOf5
  v5 := Tryz.zeroValue5
  t9 := Tryz.underlying9
  a9 := Tryz.isAgg9
  z9 := Tryz.sizeOf9
  v9 := Tryz.zeroValue9
  t20 := Tryz.underlying20
  a20 := Tryz.isAgg20
  z20 := Tryz.sizeOf20
  v20 := Tryz.zeroValue20
  t37 := Tryz.underlying70
  a37 := Tryz.isAgg70
  z37 := Tryz.sizeOf70
  v37 := Tryz.zeroValue70
  t70 := Tryz.underlying69
  a70 := Tryz.isAgg69
  z70 := Tryz.sizeOf69
  v70 := Tryz.zeroValue69
  t72 := Tryz.underlying72
  a72 := Tryz.isAgg72
  z72 := Tryz.sizeOf72
  v72 := Tryz.zeroValue72
  t75 := Tryz.underlying74
  a75 := Tryz.isAgg74
  z75 := Tryz.sizeOf74
  v75 := Tryz.zeroValue74
  t164 := Tryz.underlying117
  a164 := Tryz.isAgg117
  z164 := Tryz.sizeOf117
  v164 := Tryz.zeroValue117 }
def lays169_ren : Go.Shelf.Ren := ⟨fun | 169 => 63 | n => n, fun | 70 => 69 | 9 => 9 | 0 => 0 | 72 => 72 | 37 => 70 | 127 => 100 | 3 => 3 | 5 => 5 | n => n, fun | n => n⟩
theorem lays169 : Go.Proofs.Lays.n169 Tryz.prog lays169_ren := {
  mixed := by kernel_rfl
  f169 := Tryz.func63.trans (congrArg some (by kernel_rfl))
  t0 := Tryz.underlying0
  a0 := Tryz.isAgg0
  z0 := Tryz.sizeOf0
  v0 := Tryz.zeroValue0
  t3 := Tryz.underlying3
  a3 := Tryz.isAgg3
  z3 := Tryz.sizeOf3
  v3 := Tryz.zeroValue3
  t9 := Tryz.underlying9
  a9 := Tryz.isAgg9
  z9 := Tryz.sizeOf9
  v9 := Tryz.zeroValue9
  t37 := Tryz.underlying70
  a37 := Tryz.isAgg70
  z37 := Tryz.sizeOf70
  v37 := Tryz.zeroValue70
  t70 := Tryz.underlying69
  a70 := Tryz.isAgg69
  z70 := Tryz.sizeOf69
  v70 := Tryz.zeroValue69
  t72 := Tryz.underlying72
  a72 := Tryz.isAgg72
  z72 := Tryz.sizeOf72
  v72 := Tryz.zeroValue72
  t127 := Tryz.underlying100
  a127 := Tryz.isAgg100
  z127 := Tryz.sizeOf100
  v127 := Tryz.zeroValue100 }
end Go.Proofs.YtpejlcaoggedfaaGreatDoor
namespace Go.Proofs.YtpejlcaoggedfaaGreatDoor
open Go.RowKit Go.Shelf

theorem bX166 : Builder.Extra Tryz.prog lays166_ren where
  sizeBuilder := by kernel_rfl
  liesBuilder := by kernel_rfl
  t5 := Tryz.underlying5
  a5 := Tryz.isAgg5
  z5 := Tryz.sizeOf5
  v5 := Tryz.zeroValue5
  infoByte := by kernel_rfl
  cellsByte := by kernel_rfl
  sizeByte := by kernel_rfl
  neB5 := by decide
theorem bX167 : Builder.Extra Tryz.prog lays167_ren where
  sizeBuilder := by kernel_rfl
  liesBuilder := by kernel_rfl
  t5 := Tryz.underlying5
  a5 := Tryz.isAgg5
  z5 := Tryz.sizeOf5
  v5 := Tryz.zeroValue5
  infoByte := by kernel_rfl
  cellsByte := by kernel_rfl
  sizeByte := by kernel_rfl
  neB5 := by decide
theorem bX169 : Builder.Extra Tryz.prog lays169_ren where
  sizeBuilder := by kernel_rfl
  liesBuilder := by kernel_rfl
  t5 := Tryz.underlying5
  a5 := Tryz.isAgg5
  z5 := Tryz.sizeOf5
  v5 := Tryz.zeroValue5
  infoByte := by kernel_rfl
  cellsByte := by kernel_rfl
  sizeByte := by kernel_rfl
  neB5 := by decide
/-- The builder, its bytes. -/
def Bld (b : Nat) (l : List UInt8) (w : World) : Prop := Lib.IsBuilder 72 5 b b (Lib.byteCells l) w
theorem Bld.new (w : World) : Bld w.heap.size [] (w.alloc (.cells #[.pointer none, .slice none 0 0] 72)) := Lib.fresh_isBuilder _ _ w
theorem bat_below {T e : TypeId} {B b : Nat} {p : Value} {xs : List Value} {w w' : World} (h : Lib.BuilderAt T e B b p xs w) (hb : Below w.heap.size w w') : Lib.BuilderAt T e B b p xs w' := by
  have hlt := h.lt
  obtain ⟨hB, v, hbk, hown, hne⟩ := h
  refine ⟨hB, v, (hb.block b hlt).trans hbk, ⟨hown.1, ?_⟩, hne⟩
  rcases hown.2 with h | ⟨g, cap, cur, hv, h1, h2, h3⟩
  · exact .inl h
  · exact .inr ⟨g, cap, cur, hv, h1, (hb.block g (by
      rcases Nat.lt_or_ge g w.heap.size with h' | h'
      · exact h'
      · simp [Array.getElem?_eq_none h'] at h2)).trans h2, h3⟩
theorem Bld.below {b : Nat} {l : List UInt8} {w w' : World} (h : Bld b l w) (hb : Below w.heap.size w w') : Bld b l w' :=
  h.elim (fun h => .inl (bat_below h hb)) (fun h => .inr (bat_below h hb))
theorem Bld.size {b : Nat} {l : List UInt8} {w : World} (h : Bld b l w) : b < w.heap.size := h.elim Lib.BuilderAt.lt Lib.BuilderAt.lt
theorem bc_app (a b : List UInt8) : Lib.byteCells (a ++ b) = Lib.byteCells a ++ Lib.byteCells b := by simp [Lib.byteCells]
theorem ws_calls (b : Nat) (l s : List UInt8) (w : World) (h : Bld b l w) (hl : l.length ≤ 1000000) (hs : s.length ≤ 1000000) :
    Calls Tryz.prog 60 #[.pointer (some ⟨b, 0, none⟩), .string (bs s)] w fun e w' => e = .returned (.tuple #[.int .i64 (bs s).size, .nilIface]) ∧ Bld b (l ++ s) w' ∧ Below b w w' := by
  refine (Any.Builder_WriteString lays166 bX166 b b (Lib.byteCells l) (bs s) w h (by rw [Lib.byteCells_length, bs_size]; omega) (Nat.le_of_lt h.size)).mono ?_
  rintro e w' ⟨rfl, h1, h2⟩
  refine ⟨rfl, .inr ?_, h2⟩
  rw [bc_app]
  exact h1
theorem wb_calls (b : Nat) (l : List UInt8) (c : UInt8) (w : World) (h : Bld b l w) (hl : l.length ≤ 1000000) :
    Calls Tryz.prog 62 #[.pointer (some ⟨b, 0, none⟩), .int .u8 c.toNat] w fun e w' => e = .returned .nilIface ∧ Bld b (l ++ [c]) w' ∧ Below b w w' := by
  refine (Any.Builder_WriteByte lays167 bX167 b b (Lib.byteCells l) c.toNat w h (by rw [Lib.byteCells_length]; omega) (Nat.le_of_lt h.size)).mono ?_
  rintro e w' ⟨rfl, h1, h2⟩
  refine ⟨rfl, .inr ?_, h2⟩
  rw [bc_app]
  exact h1
theorem bstr_calls (b : Nat) (l : List UInt8) (w : World) (h : Bld b l w) :
    Calls Tryz.prog 63 #[.pointer (some ⟨b, 0, none⟩)] w fun e w' => e = .returned (.string (bs l)) ∧ Below b w w' :=
  Any.Builder_String_any lays169 bX169 b b l w h (Nat.le_of_lt h.size)

set_option maxRecDepth 100000 in
set_option maxHeartbeats 2000000 in
theorem text_calls (w : World) (ht : Tbs w) (A : Option Addr) (n c : Nat) (l : List Fld) (hn : n = l.length) (hr : Rds w A n 3 (fsE l)) (hb : n ≤ 1000) (hm : ∀ f ∈ l, f.v.length ≤ 1000000) :
    Calls Tryz.prog 37 #[.slice A n c] w fun e w' => e = .returned (.string (bs (textL l))) ∧ Below w.heap.size w w' := by
  have HN := hd hn
  have HR := hd hr
  have HM := hd hm
  have HT := hd (fun W (h : Below w.heap.size w W) => ht.below h)
  clear hn hr hm ht
  obtain ⟨X, hX⟩ : ∃ X, X = w.alloc (.cells #[.pointer none, .slice none 0 0] 72) := ⟨_, rfl⟩
  have HBX := hd (show Bld w.heap.size [] X by rw [hX]; exact Bld.new w)
  have HX := hd (show Below w.heap.size w X by rw [hX]; exact (Below.refl _ w).alloc (Nat.le_refl _) _)
  have hx := hd hX
  clear hX
  go_enter Tryz.func37, Tryz.ntmps37
  go_wp2_with fail
  rw [← hx.o]
  go_loopw [8, 5] (fun i _ wr => ∃ k : Nat, i = .int .i64 k ∧ k ≤ n ∧ Hd (Bld w.heap.size (textL (l.take k)) wr) ∧ Hd (Below w.heap.size w wr)) (fun i _ _ => n - (intOf i).toNat)
  case atStart => exact ⟨0, rfl, Nat.zero_le _, HBX, HX⟩
  case round =>
    obtain ⟨k, rfl, hk, HB, HW⟩ := hrel
    obtain ⟨wi, rfl⟩ : ∃ wi : World, wi = wr := ⟨_, rfl⟩
    by_cases hlt : k < n
    · have hlti : decide ((k : Int) < (n : Int)) = true := by simp; omega
      have hkl : k < l.length := by rw [← HN.o]; exact hlt
      obtain ⟨f, hf⟩ : ∃ f, l[k]'hkl = f := ⟨_, rfl⟩
      have hfm := HM.o f (by rw [← hf]; exact List.getElem_mem _)
      have HNX := hd (textL_take l k hkl)
      rw [hf] at HNX
      have hr2 := HR.o.below HW.o
      obtain ⟨g, o, rfl, hg, hc⟩ := hr2.at_ (by omega)
      have hcf : ∀ t u, t < 3 → (fEnc f)[t]? = some u → wi.cell? ⟨g, o + k * 3 + t, none⟩ = some u := fun t u ht hv => by
        rw [Nat.add_assoc]
        exact hc _ _ ((fsE_at l k hkl t ht).trans (by rw [hf]; exact hv))
      have c0 := hcf 0 _ (by omega) rfl
      have c1 := hcf 1 _ (by omega) rfl
      have c2 := hcf 2 _ (by omega) rfl
      rw [Nat.add_zero] at c0
      clear hcf hc hr2
      have hlen := textL_len (l.take k)
      rw [List.length_take] at hlen
      have hll := line_len f
      have C1 := fline_calls f hfm
      obtain ⟨L, hL⟩ : ∃ L, lineF f = L := ⟨_, rfl⟩
      rw [hL] at C1 hll
      have HL := hd hL
      obtain ⟨fk, fl, fv⟩ := f
      simp only [fldV] at C1
      have K1 := hd C1
      have HBB := hd (HW.o.alloc HW.o.size (.cells #[.int .i64 fk, .int .i64 fl, .string (bs fv)] 36))
      have HBL := hd (HB.o.below ((Below.refl _ wi).alloc (Nat.le_refl _) (.cells #[.int .i64 fk, .int .i64 fl, .string (bs fv)] 36)))
      have HTT := hd (HT.o _ HBB.o)
      clear C1 hL hf hfm
      go_wp2_with fail
      refine (K1.o _ HTT.o).mono ?_
      rintro e w2 ⟨rfl, hb2⟩
      have HB2 := hd (HBL.o.below hb2)
      have HW2 := hd (HBB.o.trans (hb2.mono HBB.o.size))
      clear hb2 c0 c1 c2
      go_wp2_with fail
      refine (ws_calls _ _ L w2 HB2.o (by omega) (by omega)).mono ?_
      rintro e w3 ⟨rfl, hb3, hw3⟩
      have HB3 := hd hb3
      have HW3 := hd (HW2.o.trans hw3)
      clear hb3 hw3
      go_wp2_with fail
      refine (wb_calls _ _ 10 w3 HB3.o (by rw [List.length_append]; omega)).mono ?_
      rintro e w4 ⟨rfl, hb4, hw4⟩
      have HB4 := hd (show Bld w.heap.size (textL (l.take (k + 1))) w4 by rw [HNX.o, HL.o, ← List.append_assoc]; exact hb4)
      have HW4 := hd (HW3.o.trans hw4)
      clear hb4 hw4
      go_wp2
      go_roundw
      case rel => exact ⟨k + 1, by go_num, by omega, HB4, HW4⟩
      case measure => simp [intOf]; omega
    · have hlti : decide ((k : Int) < (n : Int)) = false := by simp; omega
      have HB2 := hd (show Bld w.heap.size (textL l) wi by
        have := HB.o
        rwa [List.take_of_length_le (by rw [← HN.o]; omega)] at this)
      go_wp2_with fail
      refine (bstr_calls _ _ wi HB2.o).mono ?_
      rintro e w2 ⟨rfl, hb2⟩
      have HW2 := hd (HW.o.trans hb2)
      clear hb2
      go_wp2
      go_ret
      exact ⟨rfl, HW2.o⟩

end Go.Proofs.YtpejlcaoggedfaaGreatDoor
namespace Go.Proofs.YtpejlcaoggedfaaGreatDoor
open Go.RowKit

theorem fInfo : (Tryz.prog.info? 36).map (fun i => (i.zero, i.size, i.bytes)) = some (some (.agg #[.int .i64 0, .int .i64 0, .string ⟨#[]⟩]), 3, 32) := by kernel_rfl
theorem cntK_take (q : Int) (l : List Fld) (k : Nat) (h : k < l.length) : cntK q (l.take (k + 1)) = cntK q (l.take k) + (if l[k].k = q then 1 else 0) := by
  unfold cntK
  rw [List.take_succ_eq_append_getElem h, List.countP_append]
  congr 1
  by_cases c : l[k].k = q <;> simp [c]
/-- The counts of kinds. -/
structure Cnts (w : World) (b : Nat) (l : List Fld) (cs : Array Value) : Prop where
  blk : Blk w b 50 cs
  size : cs.size = 7
  at_ : ∀ j : Nat, j < 7 → cs[j]? = some (.int .i64 (cntK j l : Nat))
theorem Cnts.up {w : World} {b : Nat} {l : List Fld} {cs : Array Value} {k : Nat} (h : Cnts w b (l.take k) cs) (hk : k < l.length) {q : Nat} (hq : l[k].k = q) (h7 : q < 7) {w' : World} (hw : Blk w' b 50 cs) :
    Cnts (w'.setCell ⟨b, q, none⟩ (.int .i64 ((cntK q (l.take k) : Nat) + 1))) b (l.take (k + 1)) (cs.setIfInBounds q (.int .i64 ((cntK q (l.take k) : Nat) + 1))) := by
  refine ⟨hw.set_ q _, by simpa using h.size, fun j hj => ?_⟩
  have := h.at_ j hj
  by_cases e : j = q
  · subst e
    rw [Array.getElem?_setIfInBounds_self_of_lt (by rw [h.size]; exact h7), cntK_take _ _ _ hk, if_pos hq]
    rfl
  · rw [Array.getElem?_setIfInBounds_ne (by omega), this, cntK_take _ _ _ hk, if_neg (by rw [hq]; omega)]
    rfl
theorem Cnts.alloc {w : World} {b : Nat} {l : List Fld} {cs : Array Value} (h : Cnts w b l cs) (o : Obj) : Cnts (w.alloc o) b l cs := ⟨h.blk.alloc o, h.size, h.at_⟩
theorem cnt_le (q : Int) (l : List Fld) : cntK q l ≤ l.length := List.countP_le_length
theorem errL_take : ∀ (l : List Fld) (k : Nat) (h : k < l.length), (∀ f ∈ l.take k, fldE f = 0) → fldE l[k] ≠ 0 → errL l = fldE l[k]
  | [], k, h, _, _ => by simp at h
  | a :: t, 0, _, _, h => by
    have h : fldE a ≠ 0 := h
    show (if fldE a = 0 then errL t else fldE a) = fldE a
    rw [if_neg h]
  | a :: t, k + 1, h, h1, h2 => by
    have ha : fldE a = 0 := h1 a (by simp)
    show (if fldE a = 0 then errL t else fldE a) = _
    rw [if_pos ha]
    exact errL_take t k (by simpa using h) (fun f hf => h1 f (by simp [hf])) h2
theorem card_err {l : List Fld} (h : errL l ≠ 0) : cardE l = errL l ∧ cardC l = [] := by
  have : cardE l = errL l := by unfold cardE; rw [if_pos h]
  exact ⟨this, by unfold cardC; rw [if_neg (by rw [this]; exact h)]⟩
theorem card_many {l : List Fld} (h : errL l = 0) (h2 : 12 < (cans l).length) : cardE l = 2 ∧ cardC l = [] := by
  have : cardE l = 2 := by unfold cardE; rw [if_neg (by simp [h]), if_pos h2]
  exact ⟨this, by unfold cardC; rw [if_neg (by omega)]⟩
theorem card_cnt {l : List Fld} (h : errL l = 0) (h2 : ¬ 12 < (cans l).length) (h3 : ¬ CntP (cans l)) : cardE l = 1 ∧ cardC l = [] := by
  have : cardE l = 1 := by unfold cardE; rw [if_neg (by simp [h]), if_neg h2, if_pos h3]
  exact ⟨this, by unfold cardC; rw [if_neg (by omega)]⟩
theorem card_long {l : List Fld} (h : errL l = 0) (h2 : ¬ 12 < (cans l).length) (h3 : CntP (cans l)) (h4 : 900 < (textL (cans l)).length) : cardE l = 2 ∧ cardC l = [] := by
  have : cardE l = 2 := by unfold cardE; rw [if_neg (by simp [h]), if_neg h2, if_neg (by simpa using h3), if_pos h4]
  exact ⟨this, by unfold cardC; rw [if_neg (by omega)]⟩
theorem card_good {l : List Fld} (h : errL l = 0) (h2 : ¬ 12 < (cans l).length) (h3 : CntP (cans l)) (h4 : ¬ 900 < (textL (cans l)).length) : cardE l = 0 ∧ cardC l = cans l := by
  have : cardE l = 0 := cardE_of h (by omega) h3 (by omega)
  exact ⟨this, by unfold cardC; rw [if_pos this]⟩
theorem ret2 {A : Option Addr} {m c : Nat} {a b : Int} (h : a = b) : Ending.returned (.tuple #[.slice A m c, .int .i64 a]) = .returned (.tuple #[.slice A m c, .int .i64 b]) := by rw [h]
/-- What Canon hands back. -/
structure CanR (w : World) (l : List Fld) (e : Ending) (w' : World) : Prop where
  o : ∃ (A : Option Addr) (m c : Nat), e = .returned (.tuple #[.slice A m c, .int .i64 (cardE l)]) ∧ m = (cardC l).length ∧ Row w' (From w.heap.size) 36 3 A m c (fsE (cardC l)) ∧ Below w.heap.size w w'
theorem CanR.no {w w' : World} {l : List Fld} {k : Int} (h : cardE l = k ∧ cardC l = []) (hb : Below w.heap.size w w') : CanR w l (.returned (.tuple #[.slice none 0 0, .int .i64 k])) w' :=
  ⟨⟨none, 0, 0, ret2 h.1.symm, by rw [h.2]; rfl, by rw [h.2]; exact Row.nil _ _ _ _, hb⟩⟩

set_option maxRecDepth 100000 in
set_option maxHeartbeats 8000000 in
theorem ccanon_calls (w : World) (ht : Tbs w) (A : Option Addr) (n c : Nat) (l : List Fld) (hn : n = l.length) (hr : Rds w A n 3 (fsE l)) (hb : n ≤ 1000) (hm : ∀ f ∈ l, f.v.length ≤ 1000000) :
    Calls Tryz.prog 13 #[.slice A n c] w fun e w' => CanR w l e w' := by
  obtain ⟨i0, hi, hz0, hz1, hz2⟩ := info_parts fInfo
  have HN := hd hn
  have HR := hd hr
  have HM := hd hm
  have HT := hd (fun W (h : Below w.heap.size w W) => ht.below h)
  clear hn hr hm ht
  go_enter Tryz.func13, Tryz.ntmps13
  go_wp2_with fail
  go_loopw [14, 6, 7, 8, 4, 2, 3] (fun i _ _ _ out _ _ wr => ∃ (k : Nat) (B : Option Addr) (d : Nat), i = .int .i64 k ∧ k ≤ n ∧ out = .slice B k d ∧ Hd (∀ f ∈ l.take k, fldE f = 0) ∧ Hd (Row wr (From w.heap.size) 36 3 B k d (fsE ((l.take k).map fldC))) ∧ Hd (Below w.heap.size w wr)) (fun i _ _ _ _ _ _ _ => n - (intOf i).toNat)
  case atStart => exact ⟨0, none, 0, rfl, Nat.zero_le _, rfl, hd (fun f hf => by simp at hf), hd (Row.nil _ _ _ _), hd (Below.refl _ _)⟩
  case round =>
    obtain ⟨k, B, d, rfl, hk, rfl, HE, HO, HW⟩ := hrel
    obtain ⟨wi, rfl⟩ : ∃ wi : World, wi = wr := ⟨_, rfl⟩
    by_cases hlt : k < n
    · have hlti : decide ((k : Int) < (n : Int)) = true := by simp; omega
      have hkl : k < l.length := by rw [← HN.o]; exact hlt
      obtain ⟨f, hf⟩ : ∃ f, l[k]'hkl = f := ⟨_, rfl⟩
      have hfm := HM.o f (by rw [← hf]; exact List.getElem_mem _)
      have HF := hd hf
      have hr2 := HR.o.below HW.o
      obtain ⟨g, o, rfl, hg, hc⟩ := hr2.at_ (by omega)
      have hcf : ∀ t u, t < 3 → (fEnc f)[t]? = some u → wi.cell? ⟨g, o + k * 3 + t, none⟩ = some u := fun t u ht hv => by
        rw [Nat.add_assoc]
        exact hc _ _ ((fsE_at l k hkl t ht).trans (by rw [hf]; exact hv))
      have c0 := hcf 0 _ (by omega) rfl
      have c1 := hcf 1 _ (by omega) rfl
      have c2 := hcf 2 _ (by omega) rfl
      rw [Nat.add_zero] at c0
      clear hcf hc hr2 hf
      have C1 := fcanon_calls f hfm
      obtain ⟨r, hr⟩ : ∃ r, fldC f = r := ⟨_, rfl⟩
      obtain ⟨re, hre⟩ : ∃ re, fldE f = re := ⟨_, rfl⟩
      rw [hr, hre] at C1
      have HRF := hd hr
      have HRE := hd hre
      obtain ⟨fk, fl, fv⟩ := f
      obtain ⟨rk, rl, rv⟩ := r
      simp only [fldV, fldR] at C1
      have K1 := hd C1
      have HBB := hd (HW.o.alloc HW.o.size (.cells #[.int .i64 fk, .int .i64 fl, .string (bs fv)] 36))
      have HRB := hd (HO.o.alloc (.cells #[.int .i64 fk, .int .i64 fl, .string (bs fv)] 36))
      have HTT := hd (HT.o _ HBB.o)
      clear C1 hr hre hfm
      by_cases he : re = 0
      · subst he
        go_wp2_with fail
        refine (K1.o _ HTT.o).mono ?_
        rintro e w2 ⟨rfl, hb2⟩
        have HR2 := hd (HRB.o.below hb2)
        have HW2 := hd (HBB.o.trans (hb2.mono HBB.o.size))
        have hsz := HW2.o.size
        clear hb2 c0 c1 c2
        go_wp2_with (at_builtin; go_loud (refine wpList_append_row rfl _ _ 22 rfl (From w.heap.size) 36 i0 (.agg #[.int .i64 0, .int .i64 0, .string ⟨#[]⟩]) 3 32 Tryz.underlying22 hi hz0 hz1 hz2 rfl B k d (fsE ((l.take k).map fldC)) rfl ((HR2.o.alloc _).alloc _) ⟨_, 0, none⟩ 1 1 [.int .i64 rk, .int .i64 rl, .string (bs rv)] rfl rfl (cells_at (Blk.new_ _ _ (by simp) _ _) rfl) (by simp [Value.oneCell']) (by omega) (by unfold maxLen; omega) (by omega) ?_; intro A2 c2 w3 hown3 hchg3))
        go_roundw
        case rel =>
          refine ⟨k + 1, A2, c2, by go_num, by omega, rfl, hd (fun f hf => ?_), hd ?_, hd ?_⟩
          · rw [List.take_succ_eq_append_getElem hkl] at hf
            rcases List.mem_append.1 hf with hf | hf
            · exact HE.o f hf
            · rw [List.mem_singleton.1 hf, HF.o]; exact HRE.o
          · rw [show fsE ((l.take (k + 1)).map fldC) = fsE ((l.take k).map fldC) ++ [.int .i64 rk, .int .i64 rl, .string (bs rv)] by
              rw [List.take_succ_eq_append_getElem hkl, List.map_append, fsE_app, HF.o]
              simp [fsE, HRF.o, fEnc]]
            exact hown3.mono (fun q hq => by
              rcases hq with hq | hq
              · exact hq
              · simp at hq; show w.heap.size ≤ q; omega)
          · exact HW2.o.trans ((((Chg.refl (From w.heap.size) w2).alloc _).alloc _).trans hchg3 (fun q hq => .inl hq) |>.below (fun _ h => h) hsz)
        case measure => simp [intOf]; omega
      · have nE : (re != 0) = true := by simpa using he
        have HCE := hd (card_err (l := l) (by
          rw [errL_take l k hkl HE.o (by rw [HF.o, HRE.o]; exact he), HF.o, HRE.o]; exact he))
        have HCV := hd (errL_take l k hkl HE.o (by rw [HF.o, HRE.o]; exact he))
        rw [HF.o, HRE.o] at HCV
        clear he
        go_wp2_with fail
        refine (K1.o _ HTT.o).mono ?_
        rintro e w2 ⟨rfl, hb2⟩
        have HW2 := hd (HBB.o.trans (hb2.mono HBB.o.size))
        clear hb2 c0 c1 c2
        go_wp2
        go_ret2
        exact CanR.no ⟨HCE.o.1.trans HCV.o, HCE.o.2⟩ (HW2.o.alloc HW2.o.size _)
    · have hlti : decide ((k : Int) < (n : Int)) = false := by simp; omega
      have hkn : k = n := by omega
      subst hkn
      have htk : l.take k = l := List.take_of_length_le (by rw [← HN.o]; exact Nat.le_refl _)
      rw [htk] at HE HO
      have HER := hd (errL_of HE.o)
      have HLM := hd (show k = (l.map fldC).length by rw [List.length_map]; exact HN.o)
      clear htk hlti
      go_wp2_with fail
      refine (sortFs_holds wi (From w.heap.size) B k d _ HLM.o HO.o (by omega)).mono ?_
      rintro e w2 ⟨rfl, ls, hp, hs, hr2, hc2⟩
      have HP := hd hp
      have HS := hd hs
      have HR2 := hd hr2
      have hsw := HW.o.size
      have HW2 := hd (HW.o.trans ((hc2.mono HO.o.of_sub).below (fun _ h => h) hsw))
      clear hp hs hr2 hc2 hsw
      go_wp2_with fail
      refine (compact_calls w2 (From w.heap.size) B k d ls (by rw [HP.o.length_eq]; exact HLM.o) HR2.o (by omega)).mono ?_
      rintro e w3 ⟨⟨m, rfl, hm, hr3⟩, hc3⟩
      have hcan : dedup ls = cans l := dedup_sorted HP.o (HS.o.imp (fun h => by simpa [lessF] using h))
      rw [hcan] at hm hr3
      have HMM := hd hm
      have HR3 := hd hr3
      have hsw := HW2.o.size
      have HW3 := hd (HW2.o.trans ((hc3.mono HR2.o.of_sub).below (fun _ h => h) hsw))
      have hml : m ≤ k := by
        rw [hm, HLM.o]; exact rise_len _
      clear hm hr3 hc3 hsw hcan
      obtain ⟨L, hL⟩ : ∃ L, cans l = L := ⟨_, rfl⟩
      have HL := hd hL
      have HMAY := hd (cans_may HER.o)
      rw [hL] at HMM HR3 HMAY
      clear hL
      by_cases h12 : 12 < m
      · have HCE := hd (card_many HER.o (by rw [HL.o, ← HMM.o]; exact h12))
        have h12i : (12 : Int) < (m : Int) := by omega
        go_wp2
        go_ret2
        exact CanR.no HCE.o HW3.o
      · have h12i : ¬ (12 : Int) < (m : Int) := by omega
        have HN12 := hd (show ¬ 12 < (cans l).length by rw [HL.o, ← HMM.o]; exact h12)
        obtain ⟨Y, hY⟩ : ∃ Y, Y = w3.alloc (.cells #[.int .i64 0, .int .i64 0, .int .i64 0, .int .i64 0, .int .i64 0, .int .i64 0, .int .i64 0] 50) := ⟨_, rfl⟩
        obtain ⟨b, hb⟩ : ∃ b, b = w3.heap.size := ⟨_, rfl⟩
        have HYB := hd (show Below w.heap.size w Y by rw [hY]; exact HW3.o.alloc HW3.o.size _)
        have HYR := hd (show Row Y (From w.heap.size) 36 3 B m d (fsE L) by rw [hY]; exact HR3.o.alloc _)
        have HYC := hd (show Cnts Y b (L.take 0) #[.int .i64 0, .int .i64 0, .int .i64 0, .int .i64 0, .int .i64 0, .int .i64 0, .int .i64 0] from ⟨by rw [hY]; exact Blk.new_ _ _ hb _ _, rfl, fun j hj => by
          match j, hj with
          | 0, _ => rfl
          | 1, _ => rfl
          | 2, _ => rfl
          | 3, _ => rfl
          | 4, _ => rfl
          | 5, _ => rfl
          | 6, _ => rfl⟩)
        have HBW := hd (show w.heap.size ≤ b by rw [hb]; exact HW3.o.size)
        have HYb := hd hb
        have HYy := hd hY
        clear hb hY
        go_wp2_with fail
        rw [← HYy.o, ← HYb.o]
        go_loopw [40, 11] (fun i _ wr => ∃ (q : Nat) (cs : Array Value), i = .int .i64 q ∧ q ≤ m ∧ Hd (Cnts wr b (L.take q) cs) ∧ Hd (Row wr (From w.heap.size) 36 3 B m d (fsE L)) ∧ Hd (Below w.heap.size w wr)) (fun i _ _ => m - (intOf i).toNat)
        case atStart => exact ⟨0, _, rfl, Nat.zero_le _, HYC, HYR, HYB⟩
        case round =>
          obtain ⟨q, cs, rfl, hq, HC, HRQ, HWQ⟩ := hrel
          obtain ⟨wq, rfl⟩ : ∃ wq : World, wq = wr := ⟨_, rfl⟩
          by_cases hlt2 : q < m
          · have hlti : decide ((q : Int) < (m : Int)) = true := by simp; omega
            have hql : q < L.length := by rw [← HMM.o]; exact hlt2
            obtain ⟨f, hf⟩ : ∃ f, L[q]'hql = f := ⟨_, rfl⟩
            have hok := may_ok (HMAY.o f (by rw [← hf]; exact List.getElem_mem _))
            have hk6 : 1 ≤ f.k ∧ f.k ≤ 6 := by unfold okKL at hok; omega
            obtain ⟨kn, hkn⟩ : ∃ kn : Nat, f.k = kn := ⟨f.k.toNat, by omega⟩
            have hk7 : kn < 7 := by omega
            have hk7i : (kn : Int) < 7 := by omega
            have hk0i : (0 : Int) ≤ (kn : Int) := by omega
            have HFK := hd (show (L[q]'hql).k = (kn : Int) by rw [hf]; exact hkn)
            obtain ⟨g, hA, _, hg, _, _, hcl, _⟩ := HRQ.o.at_ (by omega)
            have hcf : ∀ t u, t < 3 → (fEnc f)[t]? = some u → wq.cell? ⟨g, q * 3 + t, none⟩ = some u := fun t u ht hv => hcl _ _ ((fsE_at L q hql t ht).trans (by rw [hf]; exact hv))
            have c0 := hcf 0 _ (by omega) rfl
            have c1 := hcf 1 _ (by omega) rfl
            have c2 := hcf 2 _ (by omega) rfl
            rw [Nat.add_zero] at c0
            have hne := HRQ.o.ne_blk HC.o.blk (by decide)
            have HNE := hd hne
            have cb := HC.o.blk.at_ kn (HC.o.at_ kn hk7)
            have fb := HC.o.blk.frozen kn
            have hblt := HC.o.blk.lt
            have hcle := cnt_le (kn : Int) (L.take q)
            rw [List.length_take] at hcle
            have HUP := hd (fun (W : World) (hw : Blk W b 50 cs) => HC.o.up hql HFK.o hk7 hw)
            obtain ⟨z, hz⟩ : ∃ z, cntK (kn : Int) (L.take q) = z := ⟨_, rfl⟩
            rw [hz] at cb hcle HUP
            have HBK := hd (HC.o.blk)
            obtain ⟨fk, fl, fv⟩ := f
            simp only at hkn
            subst hkn
            subst hA
            clear hcf hcl hf hok hk6 hne hz
            go_wp2
            go_roundw
            case rel =>
              refine ⟨q + 1, _, by go_num, by omega, hd ((HUP.o _ HBK.o).alloc _), hd ?_, hd ?_⟩
              · exact (HRQ.o.far (fun a ha => HNE.o a ha) _).alloc _
              · exact (HWQ.o.setCell HBW.o _).alloc (HWQ.o.setCell HBW.o _).size _
            case measure => simp [intOf]; omega
          · have hlti : decide ((q : Int) < (m : Int)) = false := by simp; omega
            have hqm : q = m := by omega
            subst hqm
            have htk : L.take q = L := List.take_of_length_le (by rw [← HMM.o]; exact Nat.le_refl _)
            have b1 := HC.o.blk.at_ 1 (HC.o.at_ 1 (by omega))
            have b2 := HC.o.blk.at_ 2 (HC.o.at_ 2 (by omega))
            have b5 := HC.o.blk.at_ 5 (HC.o.at_ 5 (by omega))
            rw [htk] at b1 b2 b5
            have HCP := hd (show CntP L ↔ cntK ((1 : Nat) : Int) L = 1 ∧ cntK ((2 : Nat) : Int) L ≤ 1 ∧ cntK ((5 : Nat) : Int) L ≤ 1 from Iff.rfl)
            obtain ⟨z1, hz1⟩ : ∃ z, cntK ((1 : Nat) : Int) L = z := ⟨_, rfl⟩
            obtain ⟨z2, hz2⟩ : ∃ z, cntK ((2 : Nat) : Int) L = z := ⟨_, rfl⟩
            obtain ⟨z5, hz5⟩ : ∃ z, cntK ((5 : Nat) : Int) L = z := ⟨_, rfl⟩
            rw [hz1] at b1 HCP
            rw [hz2] at b2 HCP
            rw [hz5] at b5 HCP
            clear hz1 hz2 hz5 htk hlti
            by_cases e1 : z1 = 1
            · subst e1
              by_cases e2 : z2 ≤ 1
              · have e2i : ¬ (1 : Int) < (z2 : Int) := by omega
                by_cases e5 : z5 ≤ 1
                · have e5i : ¬ (1 : Int) < (z5 : Int) := by omega
                  have HCPL := hd (HCP.o.2 ⟨rfl, e2, e5⟩)
                  have HTX := hd (text_calls wq (HT.o _ HWQ.o) B q d L HMM.o HRQ.o.rds (by omega) (fun f hf => by have := may_len (HMAY.o f hf); omega))
                  obtain ⟨T, hT⟩ : ∃ T, textL L = T := ⟨_, rfl⟩
                  rw [hT] at HTX
                  have HTL := hd hT
                  have hts : (bs T).size = T.length := bs_size T
                  clear e2 e5 hT
                  by_cases h9 : 900 < T.length
                  · have HCE := hd (card_long HER.o HN12.o (by rw [HL.o]; exact HCPL.o) (by rw [HL.o, HTL.o]; exact h9))
                    have h9i : (900 : Int) < (T.length : Int) := by omega
                    go_wp2_with fail
                    refine HTX.o.mono ?_
                    rintro e w4 ⟨rfl, hb4⟩
                    have HW4 := hd (HWQ.o.trans (hb4.mono HWQ.o.size))
                    clear hb4
                    go_wp2
                    go_ret2
                    exact CanR.no HCE.o HW4.o
                  · have HCE := hd (card_good HER.o HN12.o (by rw [HL.o]; exact HCPL.o) (by rw [HL.o, HTL.o]; exact h9))
                    have h9i : ¬ (900 : Int) < (T.length : Int) := by omega
                    go_wp2_with fail
                    refine HTX.o.mono ?_
                    rintro e w4 ⟨rfl, hb4⟩
                    have HR4 := hd (HRQ.o.below hb4)
                    have HW4 := hd (HWQ.o.trans (hb4.mono HWQ.o.size))
                    clear hb4
                    go_wp2
                    go_ret2
                    exact ⟨⟨B, q, d, ret2 HCE.o.1.symm, by rw [HCE.o.2, HL.o]; exact HMM.o, by rw [HCE.o.2, HL.o]; exact HR4.o, HW4.o⟩⟩
                · have e5i : (1 : Int) < (z5 : Int) := by omega
                  have HCE := hd (card_cnt HER.o HN12.o (by rw [HL.o]; exact fun h => e5 (HCP.o.1 h).2.2))
                  clear e2 e5
                  go_wp2
                  go_ret2
                  exact CanR.no HCE.o HWQ.o
              · have e2i : (1 : Int) < (z2 : Int) := by omega
                have HCE := hd (card_cnt HER.o HN12.o (by rw [HL.o]; exact fun h => e2 (HCP.o.1 h).2.1))
                clear e2
                go_wp2
                go_ret2
                exact CanR.no HCE.o HWQ.o
            · have e1i : ((z1 : Int) != 1) = true := by simp; omega
              have HCE := hd (card_cnt HER.o HN12.o (by rw [HL.o]; exact fun h => e1 (HCP.o.1 h).1))
              clear e1
              go_wp2
              go_ret2
              exact CanR.no HCE.o HWQ.o

end Go.Proofs.YtpejlcaoggedfaaGreatDoor
namespace Go.Proofs.YtpejlcaoggedfaaGreatDoor
open Go.RowKit

theorem retTE2 {a b : ByteArray} {x y : Int} (h : a = b) (k : x = y) : Ending.returned (.tuple #[.string a, .int .i64 x]) = .returned (.tuple #[.string b, .int .i64 y]) := by rw [h, k]
theorem cardT_no {l : List Fld} (h : cardE l ≠ 0) : cardT l = [] := by unfold cardT; rw [if_neg h]
theorem cardT_ok {l : List Fld} (h : cardE l = 0) : cardT l = textL (cardC l) ∧ (cardC l).length ≤ 12 ∧ AllMay (cardC l) := by
  have h0 := cardE_0 h
  have hc : cardC l = cans l := by unfold cardC; rw [if_pos h]
  rw [hc]
  exact ⟨by unfold cardT; rw [if_pos h], h0.2.1, cans_may h0.1⟩

set_option maxRecDepth 100000 in
set_option maxHeartbeats 2000000 in
theorem ctext_calls (w : World) (ht : Tbs w) (A : Option Addr) (n c : Nat) (l : List Fld) (hn : n = l.length) (hr : Rds w A n 3 (fsE l)) (hb : n ≤ 1000) (hm : ∀ f ∈ l, f.v.length ≤ 1000000) :
    Calls Tryz.prog 15 #[.slice A n c] w fun e w' => e = .returned (.tuple #[.string (bs (cardT l)), .int .i64 (cardE l)]) ∧ Below w.heap.size w w' := by
  have C1 := hd (ccanon_calls w ht A n c l hn hr hb hm)
  have HT := hd (fun W (h : Below w.heap.size w W) => ht.below h)
  clear hn hr hm ht
  obtain ⟨T, hT⟩ : ∃ T, cardT l = T := ⟨_, rfl⟩
  have HTT := hd hT
  rw [hT]
  clear hT
  go_enter Tryz.func15, Tryz.ntmps15
  go_wp2_with fail
  refine C1.o.mono ?_
  rintro e w1 ⟨⟨B, m, d, rfl, hm, hr, hb1⟩⟩
  have HB1 := hd hb1
  have HM := hd hm
  have HR := hd hr
  clear hm hr hb1
  by_cases he : cardE l = 0
  · have HOK := hd (cardT_ok he)
    have hm12 : m ≤ 12 := by rw [HM.o]; exact HOK.o.2.1
    have C2 := hd (text_calls w1 (HT.o _ HB1.o) B m d (cardC l) HM.o HR.o.rds (by omega) (fun f hf => by have := may_len (HOK.o.2.2 f hf); omega))
    rw [← HOK.o.1, HTT.o] at C2
    have HE0 := hd he
    rw [he]
    clear he
    go_wp2_with fail
    refine C2.o.mono ?_
    rintro e w2 ⟨rfl, hb2⟩
    have HB2 := hd (HB1.o.trans (hb2.mono HB1.o.size))
    clear hb2
    go_wp2
    go_ret2
    exact ⟨retTE2 rfl HE0.o.symm, HB2.o⟩
  · have HNO := hd (cardT_no he)
    have nE : (cardE l != 0) = true := by simpa using he
    obtain ⟨ce, hce⟩ : ∃ ce, cardE l = ce := ⟨_, rfl⟩
    rw [hce] at nE
    rw [hce]
    have HCE := hd hce
    clear he hce
    go_wp2
    go_ret2
    exact ⟨retTE2 (by rw [← HTT.o, HNO.o]; rfl) HCE.o.symm, HB1.o⟩

end Go.Proofs.YtpejlcaoggedfaaGreatDoor
namespace Go.Proofs.YtpejlcaoggedfaaGreatDoor
open Go.RowKit

theorem bt_eqL (a : List UInt8) (s : ByteArray) : ((bs a).toList == s.toList) = decide (a = s.data.toList) := by
  rw [bs_toL, Lib.toList_data]
  by_cases h : a = s.data.toList <;> simp [h]
theorem bt_eqM (a b : List UInt8) : ((bs a).toList == (bs b).toList) = decide (a = b) := by
  rw [bs_toL, bs_toL]
  by_cases h : a = b <;> simp [h]
/-- What the cut leaves. -/
structure CutIs (S H A : List UInt8) : Prop where
  o : ∀ f, Found S f → headL f.k f.l = H ∧ f.v = A
  n : S = [] → H = []
  la : A.length ≤ S.length
  lh : H.length ≤ S.length
theorem bef_len' (c : UInt8) (l : List UInt8) : (bef c l).length ≤ l.length := (List.takeWhile_sublist _).length_le
theorem cut_is (S : List UInt8) : CutIs S (if 58 ∈ S then bef 58 S else S) (if 58 ∈ S then aft 58 S else []) := by
  by_cases h : (58 : UInt8) ∈ S
  · rw [if_pos h, if_pos h]
    exact ⟨fun f hf => ⟨(found_cut hf).2.1.symm, (found_cut hf).2.2.symm⟩, fun e => (by rw [e] at h; cases h), Nat.le_of_lt (aft_len 58 S h), bef_len' 58 S⟩
  · rw [if_neg h, if_neg h]
    exact ⟨fun f hf => absurd (found_cut hf).1 h, fun e => e, Nat.zero_le _, Nat.le_refl _⟩
theorem line_iff {S H A : List UInt8} (hc : CutIs S H A) {k l : Int} (hk : 1 ≤ k ∧ k ≤ 6) (he : headL k l = H) : lineF ⟨k, l, A⟩ = S ↔ Found S ⟨k, l, A⟩ := by
  constructor
  · intro h
    by_cases hm : MayF ⟨k, l, A⟩
    · exact ⟨hm, by rw [← line_yes hm]; exact h⟩
    · rw [line_no hm] at h
      have := hc.n h.symm
      rw [this] at he
      unfold headL at he
      exact absurd (List.append_eq_nil_iff.1 he).1 (fun e => (kindL_ne k).1 e hk)
  · exact found_line
/-- From which kind, from which label on. -/
def From1 (S : List UInt8) (k : Nat) : Prop := ∀ f, Found S f → (k : Int) ≤ f.k
def From2 (S : List UInt8) (k l : Nat) : Prop := ∀ f, Found S f → (k : Int) ≤ f.k ∧ (f.k = k → (l : Int) ≤ f.l)
theorem from1_0 (S : List UInt8) : From1 S 1 := fun f hf => (may_ok hf.1).1
theorem from2_0 {S : List UInt8} {k : Nat} (h : From1 S k) : From2 S k 0 := fun f hf => ⟨h f hf, fun _ => by have := may_ok hf.1; unfold okKL at this; omega⟩
theorem from2_up {S : List UInt8} {k : Nat} (h : From2 S k 4) : From1 S (k + 1) := fun f hf => by
  have h1 := h f hf
  have h2 := may_ok hf.1
  unfold okKL at h2
  have : f.k ≠ k := fun e => by have := h1.2 e; omega
  have := h1.1
  omega
theorem from1_end {S : List UInt8} (h : From1 S 7) : ∀ f, ¬ Found S f := fun f hf => by
  have h1 := h f hf
  have h2 := may_ok hf.1
  unfold okKL at h2
  omega
theorem from2_no {S : List UInt8} {k l : Nat} (h : From2 S k l) (hn : ∀ f, Found S f → f.k = k → f.l ≠ l) : From2 S k (l + 1) := fun f hf => by
  have h1 := h f hf
  refine ⟨h1.1, fun e => ?_⟩
  have := h1.2 e
  have := hn f hf e
  omega

set_option maxRecDepth 100000 in
set_option maxHeartbeats 4000000 in
theorem fparse_calls (s : ByteArray) (hs : s.size ≤ 1000000) (w : World) (ht : Tbs w) : Calls Tryz.prog 42 #[.string s] w fun e w' => e = .returned (fldR (parF s.data.toList) (parE s.data.toList)) ∧ Below w.heap.size w w' := by
  have hsl : s.data.toList.length = s.size := by simp
  obtain ⟨V, hV⟩ : ∃ V, parF s.data.toList = V := ⟨_, rfl⟩
  obtain ⟨F, hF⟩ : ∃ F, parE s.data.toList = F := ⟨_, rfl⟩
  rw [hV, hF]
  have HY : Hd (∀ f, Found s.data.toList f → V = f ∧ F = 0) := hd (fun f hf => by rw [← hV, ← hF]; exact par_yes hf)
  have HN : Hd ((∀ f, ¬ Found s.data.toList f) → V = noFld ∧ F = 1) := hd (fun h => by rw [← hV, ← hF]; exact par_no h)
  clear hV hF
  have hcut := cut_is s.data.toList
  obtain ⟨S, hS⟩ : ∃ S, s.data.toList = S := ⟨_, rfl⟩
  have HS := hd hS
  have hC := fun W (h : Tbl W) => cutc_calls 58 s (by omega) W h
  rw [hS] at HY HN hcut hC hsl
  clear hS
  have hC' : ∃ H A bb, CutIs S H A ∧ ∀ W, Tbl W → Calls Tryz.prog 41 #[.string s, .string ⟨#[58]⟩] W fun e w' => e = .returned (.tuple #[.string (bs H), .string (bs A), .bool bb]) ∧ Below W.heap.size W w' := by
    by_cases h : (58 : UInt8) ∈ S
    · simp only [if_pos h] at hcut hC
      exact ⟨_, _, _, hcut, hC⟩
    · simp only [if_neg h] at hcut hC
      refine ⟨_, _, false, hcut, fun W hW => (hC W hW).mono ?_⟩
      rintro e w' ⟨rfl, hb⟩
      exact ⟨by rw [← HS.o, bs_self], hb⟩
  clear hC hcut
  obtain ⟨H, A, bb, hcut, hC⟩ := hC'
  have hA : A.length ≤ 1000000 := by have := hcut.la; omega
  have HCI := hd hcut
  have H1 := hd hC
  clear hC hcut
  have HT := hd (fun W (h : Below w.heap.size w W) => ht.below h)
  obtain ⟨X, hX⟩ : ∃ X, X = w.alloc (.cells #[.int .i64 0, .int .i64 0, .string ⟨#[]⟩] 36) := ⟨_, rfl⟩
  have HB0 := hd (show Below w.heap.size w X by rw [hX]; exact (Below.refl _ w).alloc (Nat.le_refl _) _)
  have HK := hd (show Blk X w.heap.size 36 #[.int .i64 0, .int .i64 0, .string ⟨#[]⟩] by rw [hX]; exact Blk.new _ _ _)
  have HX := hd (show X.heap.size = w.heap.size + 1 by rw [hX]; simp)
  have hx := hd hX
  clear hX ht
  go_enter Tryz.func42, Tryz.ntmps42
  go_wp2_with fail
  rw [← hx.o]
  refine (H1.o X (HT.o X HB0.o).1).mono ?_
  rintro e w1 ⟨rfl, hb1⟩
  have HB1 : Hd (Below X.heap.size X w1) := hd hb1
  clear hb1
  go_wp2_with fail
  go_loopw [7, 8, 9, 10, 11, 3] (fun k _ _ _ _ _ wr => ∃ q : Nat, k = .int .i64 q ∧ 1 ≤ q ∧ q ≤ 7 ∧ Hd (From1 S q) ∧ Below X.heap.size X wr) (fun k _ _ _ _ _ _ => 7 - (intOf k).toNat)
  case atStart => exact ⟨1, rfl, by omega, by omega, hd (from1_0 S), HB1.o⟩
  case round =>
    obtain ⟨q, rfl, hq1, hq7, hf, hbe⟩ := hrel
    obtain ⟨wo, rfl⟩ : ∃ wo : World, wo = wr := ⟨_, rfl⟩
    have HBO := hd hbe
    clear hbe
    by_cases hlt : q < 7
    · have hq6 : (q : Int) ≤ 6 := by omega
      have hq6' : decide ((q : Int) ≤ 6) = true := by simpa using hq6
      go_wp2_with fail
      go_loopw [8, 9, 10, 11, 3] (fun l _ _ _ _ wr => ∃ r : Nat, l = .int .i64 r ∧ r ≤ 4 ∧ Hd (From2 S q r) ∧ Below X.heap.size X wr) (fun l _ _ _ _ _ => 4 - (intOf l).toNat)
      case atStart => exact ⟨0, rfl, by omega, hd (from2_0 hf.o), HBO.o⟩
      case round =>
        obtain ⟨r, rfl, hr4, hg, hbe⟩ := hrel
        obtain ⟨wi, rfl⟩ : ∃ wi : World, wi = wr := ⟨_, rfl⟩
        have HBI := hd hbe
        clear hbe
        by_cases hlt4 : r < 4
        · have C1 := label_calls q r wi
          have C2 := kind_calls q wi
          by_cases ho : okL q r
          · rw [show decide (okL (q : Int) r) = true by simp [ho], show labV (q : Int) r = labL r by rw [labV, if_pos ho]] at C1
            have hsum : bs (kindL q) ++ bs (labL r) = bs (headL q r) := bs_app2 _ _
            have hlk := kindL_len q
            have hll := labL_len r
            rw [← bs_size] at hlk hll
            by_cases he : headL q r = H
            · have hne := bt_eqM (headL q r) H
              rw [decide_eq_true he, ← hsum] at hne
              have hkk := ((okKL_iff (q : Int) r).2 ⟨by omega, ho⟩)
              have hli := line_iff HCI.o (k := q) (l := r) (by omega) he
              have K1 := hd C1
              have K2 := hd C2
              have K3 := hd (fline_calls ⟨q, r, A⟩ hA)
              simp only [fldV] at K3
              have hbox := (Blk.new wi 36 #[.int .i64 q, .int .i64 r, .string (bs A)])
              have HBA := hd (HBI.o.alloc HBI.o.size (.cells #[.int .i64 q, .int .i64 r, .string (bs A)] 36))
              have HBOX := hd hbox
              have HTA := hd (HT.o _ (HB0.o.trans (HBA.o.mono (by rw [HX.o]; omega))))
              obtain ⟨L1, hL1⟩ : ∃ L1, lineF ⟨q, r, A⟩ = L1 := ⟨_, rfl⟩
              rw [hL1] at K3 hli
              have heq := bt_eqL L1 s
              rw [HS.o] at heq
              have HLI := hd hli
              clear C1 C2 he ho hsum hli hL1 hbox hkk
              by_cases hfd : L1 = S
              · have HFD := hd (HY.o _ (HLI.o.1 hfd))
                rw [decide_eq_true hfd] at heq
                clear hfd HLI
                go_wp2_with fail
                refine K1.o.mono ?_
                rintro e w2 ⟨rfl, rfl⟩
                go_wp2_with fail
                refine K2.o.mono ?_
                rintro e w2 ⟨rfl, rfl⟩
                go_wp2_with fail
                refine (K3.o _ HTA.o).mono ?_
                rintro e w2 ⟨rfl, hb2⟩
                have HB2 := hd (HBA.o.trans (hb2.mono HBA.o.size))
                have k1 := HK.o.below HB2.o (by rw [HX.o]; omega)
                have k2 := HBOX.o.below hb2 (by simp)
                have b0 := k1.at_ 0 rfl
                have b1 := k1.at_ 1 rfl
                have b2 := k1.at_ 2 rfl
                have g0 := k1.frozen 0
                have g1 := k1.frozen 1
                have g2 := k1.frozen 2
                have a0 := k2.at_ 0 rfl
                have a1 := k2.at_ 1 rfl
                have a2 := k2.at_ 2 rfl
                have hl := k1.lt
                have hl2 := k2.lt
                have Q1 := hd k1
                clear k1 k2 hb2
                go_wp2
                (try simp only [Exit.inBlock, Exit.then])
                refine bodyPost_ret (res_cell rfl _ _ _ _ _ _ _ rfl (((Q1.o.set_ 0 _).set_ 1 _).set_ 2 _) rfl rfl rfl) rfl ⟨?_, ?_⟩
                · exact retF (f := ⟨q, r, A⟩) (a := 0) HFD.o.1.symm HFD.o.2.symm
                · exact ((((HB0.o.trans (HB2.o.mono (by rw [HX.o]; omega))).setCell (Nat.le_refl _) _).setCell (Nat.le_refl _) _).setCell (Nat.le_refl _) _)
              · have HN2 := hd (from2_no hg.o (fun f hf e1 e2 => hfd (HLI.o.2 (by
                  have := (HCI.o.o f hf).2
                  obtain ⟨fk, fl, fv⟩ := f
                  simp only at e1 e2 this
                  rw [e1, e2, this] at hf
                  exact hf))))
                rw [decide_eq_false hfd] at heq
                clear hfd HLI
                go_wp2_with fail
                refine K1.o.mono ?_
                rintro e w2 ⟨rfl, rfl⟩
                go_wp2_with fail
                refine K2.o.mono ?_
                rintro e w2 ⟨rfl, rfl⟩
                go_wp2_with fail
                refine (K3.o _ HTA.o).mono ?_
                rintro e w2 ⟨rfl, hb2⟩
                have HB2 := hd (HBA.o.trans (hb2.mono HBA.o.size))
                clear hb2
                go_wp2
                go_roundw
                case rel => exact ⟨r + 1, by go_num, by omega, HN2, HB2.o⟩
                case measure => simp [intOf]; omega
            · have hne := bt_eqM (headL q r) H
              rw [decide_eq_false he, ← hsum] at hne
              have HN2 := hd (from2_no hg.o (fun f hf e1 e2 => he (by rw [← e1, ← e2]; exact (HCI.o.o f hf).1)))
              have K1 := hd C1
              have K2 := hd C2
              clear C1 C2 he ho hsum
              go_wp2_with fail
              refine K1.o.mono ?_
              rintro e w2 ⟨rfl, rfl⟩
              go_wp2_with fail
              refine K2.o.mono ?_
              rintro e w2 ⟨rfl, rfl⟩
              go_wp2
              go_roundw
              case rel => exact ⟨r + 1, by go_num, by omega, HN2, HBI.o⟩
              case measure => simp [intOf]; omega
          · rw [show decide (okL (q : Int) r) = false by simp [ho]] at C1
            have HN2 := hd (from2_no hg.o (fun f hf e1 e2 => ho (by rw [← e1, ← e2]; exact ((okKL_iff _ _).1 (may_ok hf.1)).2)))
            have K1 := hd C1
            clear C1 C2 ho
            go_wp2_with fail
            refine K1.o.mono ?_
            rintro e w2 ⟨rfl, rfl⟩
            go_wp2
            go_roundw
            case rel => exact ⟨r + 1, by go_num, by omega, HN2, HBI.o⟩
            case measure => simp [intOf]; omega
        · have hr : r = 4 := by omega
          subst hr
          have HN2 := hd (from2_up hg.o)
          go_wp2
          go_roundw
          case rel => exact ⟨q + 1, by go_num, by omega, by omega, HN2, HBI.o⟩
          case measure => simp [intOf]; omega
    · have hq : q = 7 := by omega
      subst hq
      have HX2 := hd (HN.o (from1_end hf.o))
      have k1 := HK.o.below HBO.o (by rw [HX.o]; omega)
      have b0 := k1.at_ 0 rfl
      have b1 := k1.at_ 1 rfl
      have b2 := k1.at_ 2 rfl
      have g0 := k1.frozen 0
      have g1 := k1.frozen 1
      have g2 := k1.frozen 2
      have hl := k1.lt
      have K1 := hd k1
      clear k1
      go_wp2
      (try simp only [Exit.inBlock, Exit.then])
      refine bodyPost_ret (res_cell rfl _ _ _ _ _ _ _ rfl (((K1.o.set_ 0 _).set_ 1 _).set_ 2 _) rfl rfl rfl) rfl ⟨?_, ?_⟩
      · exact retF (f := noFld) (a := 1) HX2.o.1.symm HX2.o.2.symm
      · exact ((((HB0.o.trans (HBO.o.mono (by rw [HX.o]; omega))).setCell (Nat.le_refl _) _).setCell (Nat.le_refl _) _).setCell (Nat.le_refl _) _)

end Go.Proofs.YtpejlcaoggedfaaGreatDoor
namespace Go.Proofs.YtpejlcaoggedfaaGreatDoor
open Go.RowKit

theorem textL_ge : ∀ l : List Fld, l.length ≤ (textL l).length
  | [] => by simp
  | f :: t => by
    have := textL_ge t
    unfold textL at *
    rw [List.flatMap_cons, List.length_append, List.length_append, List.length_cons]
    simp only [List.length_cons, List.length_nil]
    omega
/-- So far: the fields, what is left. -/
structure Sofar (S : List UInt8) (L : List Fld) (r : List UInt8) : Prop where
  may : AllMay L
  eq : S = textL L ++ r
theorem sofar_0 (S : List UInt8) : Sofar S [] S := ⟨(fun f hf => by cases hf), rfl⟩
theorem sofar_len {S r : List UInt8} {L : List Fld} (h : Sofar S L r) : L.length + r.length ≤ S.length := by
  have := textL_ge L
  rw [h.eq, List.length_append]; omega
theorem sofar_next {S r : List UInt8} {L : List Fld} {f : Fld} (h : Sofar S L r) (hr : r = bef 10 r ++ 10 :: aft 10 r) (hf : Found (bef 10 r) f) : Sofar S (L ++ [f]) (aft 10 r) := by
  refine ⟨fun g hg => ?_, ?_⟩
  · rcases List.mem_append.1 hg with hg | hg
    · exact h.may g hg
    · rw [List.mem_singleton.1 hg]; exact hf.1
  · rw [textL_snoc, found_line hf, h.eq]
    conv => lhs; rw [hr]
    simp
/-- What a parse hands back. -/
structure ParR (w : World) (s : List UInt8) (e : Ending) (w' : World) : Prop where
  o : ∃ (A : Option Addr) (m c : Nat), e = .returned (.tuple #[.slice A m c, .int .i64 (crdE s)]) ∧ m = (crdF s).length ∧ Row w' (From w.heap.size) 36 3 A m c (fsE (crdF s)) ∧ Below w.heap.size w w'
theorem ParR.no {w w' : World} {s : List UInt8} (h : ∀ l, ¬ Reads s l) (hb : Below w.heap.size w w') : ParR w s (.returned (.tuple #[.slice none 0 0, .int .i64 1])) w' :=
  ⟨⟨none, 0, 0, ret2 (crd_no h).2.symm, by rw [(crd_no h).1]; rfl, by rw [(crd_no h).1]; exact Row.nil _ _ _ _, hb⟩⟩
theorem ParR.yes {w w' : World} {s : List UInt8} {L : List Fld} {B : Option Addr} {m c : Nat} (h : Reads s L) (hm : m = L.length) (hr : Row w' (From w.heap.size) 36 3 B m c (fsE L)) (hb : Below w.heap.size w w') : ParR w s (.returned (.tuple #[.slice B m c, .int .i64 0])) w' :=
  ⟨⟨B, m, c, ret2 (crd_yes h).2.symm, by rw [(crd_yes h).1]; exact hm, by rw [(crd_yes h).1]; exact hr, hb⟩⟩

set_option maxRecDepth 100000 in
set_option maxHeartbeats 8000000 in
theorem cparse_calls (s : ByteArray) (hs : s.size ≤ 1000000) (w : World) (ht : Tbs w) : Calls Tryz.prog 17 #[.string s] w fun e w' => ParR w s.data.toList e w' := by
  obtain ⟨i0, hi, hz0, hz1, hz2⟩ := info_parts fInfo
  have HSL := hd (show s.data.toList.length = s.size by simp)
  obtain ⟨S, hS⟩ : ∃ S, s.data.toList = S := ⟨_, rfl⟩
  have HS := hd hS
  rw [hS] at HSL ⊢
  clear hS
  have HT := hd (fun W (h : Below w.heap.size w W) => ht.below h)
  clear ht
  by_cases h9 : 900 < s.size
  · have HNO := hd (show ∀ l, ¬ Reads S l from fun l h => by have := (reads_len h).1; rw [HSL.o] at this; omega)
    have h9i : (900 : Int) < (s.size : Int) := by omega
    go_enter Tryz.func17, Tryz.ntmps17
    go_wp2
    go_ret2
    exact ParR.no HNO.o (Below.refl _ _)
  · have h9i : ¬ (900 : Int) < (s.size : Int) := by omega
    have HRS := hd (show s = bs S by rw [← HS.o, bs_self])
    go_enter Tryz.func17, Tryz.ntmps17
    go_wp2_with fail
    go_loopw [5, 6, 7, 8, 9, 10, 4, 2, 3] (fun rest _ _ _ _ _ out _ _ wr => ∃ (rb : ByteArray) (r : List UInt8) (L : List Fld) (B : Option Addr) (k d : Nat), rest = .string rb ∧ rb.size = r.length ∧ Hd (rb = bs r) ∧ out = .slice B k d ∧ Hd (k = L.length) ∧ k + r.length ≤ 900 ∧ Hd (Sofar S L r) ∧ Hd (Row wr (From w.heap.size) 36 3 B k d (fsE L)) ∧ Hd (Below w.heap.size w wr)) (fun rest _ _ _ _ _ _ _ _ _ => match rest with | .string b => b.size | _ => 0)
    case atStart => exact ⟨s, S, [], none, 0, 0, rfl, HSL.o.symm, HRS, rfl, rfl, by rw [HSL.o]; omega, hd (sofar_0 S), hd (Row.nil _ _ _ _), hd (Below.refl _ _)⟩
    case round =>
      obtain ⟨rb, r, L, B, k, d, rfl, hrz, HRB, rfl, HK, hk9, HSO, HRO, HW⟩ := hrel
      obtain ⟨wi, rfl⟩ : ∃ wi : World, wi = wr := ⟨_, rfl⟩
      by_cases hr0 : r = []
      · have hrb : (rb.toList == []) = true := by rw [HRB.o, bs_toL, hr0]; rfl
        have HEQ := hd (show S = textL L by have := HSO.o.eq; rw [hr0, List.append_nil] at this; exact this)
        have HND := hd (fun m (h : Reads S m) => (reads_end (r := []) HSO.o.may (by rw [← HEQ.o]; simp) (by simp) h).1)
        have HOF := hd (fun (h1 : cardE L = 0) (h2 : cardT L = S) => reads_of (r := []) HSO.o.may (by rw [← HEQ.o]; simp) h1 h2)
        have C1 := hd (ctext_calls wi (HT.o _ HW.o) B k d L HK.o HRO.o.rds (by omega) (fun f hf => by have := may_len (HSO.o.may f hf); omega))
        have heq : ((bs (cardT L)).toList == s.toList) = decide (cardT L = S) := by rw [bt_eqL, HS.o]
        by_cases hg : cardE L = 0 ∧ cardT L = S
        · have HRD := hd (HOF.o hg.1 hg.2)
          rw [hg.1] at C1
          rw [decide_eq_true hg.2] at heq
          generalize bs (cardT L) = T at C1 heq
          clear hg hr0
          go_wp2_with fail
          refine C1.o.mono ?_
          rintro e w2 ⟨rfl, hb2⟩
          have HR2 := hd (HRO.o.below hb2)
          have HW2 := hd (HW.o.trans (hb2.mono HW.o.size))
          clear hb2
          go_wp2
          go_ret2
          exact ParR.yes HRD.o HK.o HR2.o HW2.o
        · have HNO := hd (show ∀ l, ¬ Reads S l from fun m h => by
            have e := HND.o m h
            subst e
            exact hg (reads_text h))
          by_cases he : cardE L = 0
          · have hne : ¬ cardT L = S := fun h => hg ⟨he, h⟩
            rw [he] at C1
            rw [decide_eq_false hne] at heq
            generalize bs (cardT L) = T at C1 heq
            clear hg hr0 he hne
            go_wp2_with fail
            refine C1.o.mono ?_
            rintro e w2 ⟨rfl, hb2⟩
            have HW2 := hd (HW.o.trans (hb2.mono HW.o.size))
            clear hb2
            go_wp2
            go_ret2
            exact ParR.no HNO.o HW2.o
          · have nE : (cardE L != 0) = true := by simpa using he
            generalize cardE L = ce at C1 nE
            generalize bs (cardT L) = T at C1
            clear hg hr0 he heq HOF
            go_wp2_with fail
            refine C1.o.mono ?_
            rintro e w2 ⟨rfl, hb2⟩
            have HW2 := hd (HW.o.trans (hb2.mono HW.o.size))
            clear hb2
            go_wp2
            go_ret2
            exact ParR.no HNO.o HW2.o
      · have hrb : (rb.toList == []) = false := by
          rw [HRB.o, bs_toL]
          cases r with
          | nil => exact absurd rfl hr0
          | cons a t => rfl
        have hrd : rb.data.toList = r := by rw [HRB.o, bs_data]
        have hsz : rb.size ≤ 900 := by rw [hrz]; omega
        have C1 := cutc_calls 10 rb (by omega) wi (HT.o _ HW.o).1
        rw [hrd] at C1
        by_cases hin : (10 : UInt8) ∈ r
        · simp only [if_pos hin] at C1
          have HSP := hd (bef_aft 10 r hin)
          have hal := aft_len 10 r hin
          have hbl := bef_le 10 r
          have HCUT := hd (fun m (h : Reads S m) => reads_cut HSO.o.may (show S = textL L ++ (bef 10 r ++ 10 :: aft 10 r) by rw [← HSP.o]; exact HSO.o.eq) (bef_not 10 r) h)
          have HNX := hd (fun f (h : Found (bef 10 r) f) => sofar_next HSO.o HSP.o h)
          have C2 := fun W (h : Below w.heap.size w W) => fparse_calls (bs (bef 10 r)) (by rw [bs_size]; omega) W (HT.o W h)
          rw [bs_data] at C2
          have hz2' : (bs (aft 10 r)).size = (aft 10 r).length := bs_size _
          have HAF := hd (show bs (aft 10 r) = bs (aft 10 r) from rfl)
          obtain ⟨af, haf⟩ : ∃ af, aft 10 r = af := ⟨_, rfl⟩
          rw [haf] at hal hz2' HNX C1
          have K1 := hd C1
          rcases par_or (bef 10 r) with ⟨f, hf, e1, e2⟩ | ⟨hno, e1, e2⟩
          · rw [e1, e2] at C2
            have HSN := hd (HNX.o f hf)
            obtain ⟨fk, fl, fv⟩ := f
            simp only [fldR, fldV] at C2
            have K2 := hd C2
            clear C1 C2 hin e1 e2 hr0 haf hf HCUT HNX HSP HAF hrd
            go_wp2_with fail
            refine K1.o.mono ?_
            rintro e w2 ⟨rfl, hb2⟩
            have HW2 := hd (HW.o.trans (hb2.mono HW.o.size))
            have HR2 := hd (HRO.o.below hb2)
            clear hb2
            go_wp2_with fail
            refine (K2.o _ HW2.o).mono ?_
            rintro e w3 ⟨rfl, hb3⟩
            have HW3 := hd (HW2.o.trans (hb3.mono HW2.o.size))
            have HR3 := hd (HR2.o.below hb3)
            have hsw := HW3.o.size
            clear hb3
            go_wp2_with (at_builtin; go_loud (refine wpList_append_row rfl _ _ 22 rfl (From w.heap.size) 36 i0 (.agg #[.int .i64 0, .int .i64 0, .string ⟨#[]⟩]) 3 32 Tryz.underlying22 hi hz0 hz1 hz2 rfl B k d (fsE L) rfl ((HR3.o.alloc _).alloc _) ⟨_, 0, none⟩ 1 1 [.int .i64 fk, .int .i64 fl, .string (bs fv)] rfl rfl (cells_at (Blk.new_ _ _ (by simp) _ _) rfl) (by simp [Value.oneCell']) (by omega) (by unfold maxLen; omega) (by omega) ?_; intro A2 c2 w4 hown4 hchg4))
            go_roundw
            case rel =>
              refine ⟨_, af, L ++ [⟨fk, fl, fv⟩], A2, k + 1, c2, rfl, hz2', rfl, rfl, hd (by rw [List.length_append, HK.o]; rfl), by omega, HSN, hd ?_, hd ?_⟩
              · rw [fsE_snoc]
                exact hown4.mono (fun q hq => by
                  rcases hq with hq | hq
                  · exact hq
                  · simp at hq; show w.heap.size ≤ q; omega)
              · exact HW3.o.trans ((((Chg.refl (From w.heap.size) w3).alloc _).alloc _).trans hchg4 (fun q hq => .inl hq) |>.below (fun _ h => h) hsw)
            case measure => show (bs af).size < rb.size; omega
          · rw [e1, e2] at C2
            have HNO := hd (show ∀ l, ¬ Reads S l from fun m h => by obtain ⟨f, hf⟩ := HCUT.o m h; exact hno f hf)
            simp only [fldR, fldV, noFld] at C2
            have K2 := hd C2
            clear hno C1 C2 hin e1 e2 hr0 haf HCUT HNX HSP HAF hrd
            go_wp2_with fail
            refine K1.o.mono ?_
            rintro e w2 ⟨rfl, hb2⟩
            have HW2 := hd (HW.o.trans (hb2.mono HW.o.size))
            clear hb2
            go_wp2_with fail
            refine (K2.o _ HW2.o).mono ?_
            rintro e w3 ⟨rfl, hb3⟩
            have HW3 := hd (HW2.o.trans (hb3.mono HW2.o.size))
            clear hb3
            go_wp2
            go_ret2
            exact ParR.no HNO.o (HW3.o.alloc HW3.o.size _)
        · simp only [if_neg hin] at C1
          have HNO := hd (show ∀ l, ¬ Reads S l from fun m h => hr0 (reads_end HSO.o.may HSO.o.eq hin h).2)
          obtain ⟨p, pe, hp⟩ : ∃ p pe, ∀ W, Below w.heap.size w W → Calls Tryz.prog 42 #[.string rb] W fun e w' => e = .returned (fldR p pe) ∧ Below W.heap.size W w' := ⟨_, _, fun W h => fparse_calls rb (by omega) W (HT.o W h)⟩
          obtain ⟨pk, pl, pv⟩ := p
          simp only [fldR, fldV] at hp
          have K1 := hd C1
          have K2 := hd hp
          clear hp C1 hin hr0 hrd
          go_wp2_with fail
          refine K1.o.mono ?_
          rintro e w2 ⟨rfl, hb2⟩
          have HW2 := hd (HW.o.trans (hb2.mono HW.o.size))
          clear hb2
          go_wp2_with fail
          refine (K2.o _ HW2.o).mono ?_
          rintro e w3 ⟨rfl, hb3⟩
          have HW3 := hd (HW2.o.trans (hb3.mono HW2.o.size))
          clear hb3
          go_wp2
          go_ret2
          exact ParR.no HNO.o (HW3.o.alloc HW3.o.size _)

end Go.Proofs.YtpejlcaoggedfaaGreatDoor
namespace Go.Proofs.YtpejlcaoggedfaaGreatDoor
open Go.RowKit

noncomputable def titleT (s : List UInt8) : List UInt8 := match crdF s with
  | [] => []
  | f :: _ => f.v
theorem title_nil {s : List UInt8} (h : crdF s = []) : titleT s = [] := by unfold titleT; rw [h]
theorem title_cons {s : List UInt8} {f : Fld} {t : List Fld} (h : crdF s = f :: t) : titleT s = f.v := by unfold titleT; rw [h]
theorem crd_head (s : List UInt8) : crdF s = [] ∨ ∃ f t, crdF s = f :: t ∧ f.k = 1 := by
  rcases crd_or s with ⟨l, h, e, _⟩ | ⟨_, e, _⟩
  · obtain ⟨f, t, h1, h2⟩ := ok_head h.1
    exact .inr ⟨f, t, by rw [e, h1], h2⟩
  · exact .inl e
theorem cis_calls (s : ByteArray) (hs : s.size ≤ 1000000) (w : World) (ht : Tbs w) : Calls Tryz.prog 20 #[.string s] w fun e w' => e = .returned (.bool (decide (crdE s.data.toList = 0))) ∧ Below w.heap.size w w' := by
  have C1 := hd (cparse_calls s hs w ht)
  clear ht
  obtain ⟨v, hv⟩ : ∃ v, decide (crdE s.data.toList = 0) = v := ⟨_, rfl⟩
  rw [hv]
  have hve : (crdE s.data.toList == 0) = v := by rw [← hv]; rfl
  have HV := hd hve
  clear hv hve
  go_enter Tryz.func20, Tryz.ntmps20
  go_wp2_with fail
  refine C1.o.mono ?_
  rintro e w1 ⟨⟨B, m, d, rfl, hm, hr, hb1⟩⟩
  have HB1 := hd hb1
  clear hm hr hb1
  go_wp2
  go_ret
  exact ⟨retBB HV.o, HB1.o⟩

set_option maxHeartbeats 1000000 in
theorem title_calls (s : ByteArray) (hs : s.size ≤ 1000000) (w : World) (ht : Tbs w) : Calls Tryz.prog 22 #[.string s] w fun e w' => e = .returned (.string (bs (titleT s.data.toList))) ∧ Below w.heap.size w w' := by
  have C1 := hd (cparse_calls s hs w ht)
  clear ht
  obtain ⟨T, hT⟩ : ∃ T, titleT s.data.toList = T := ⟨_, rfl⟩
  rw [hT]
  have HTT := hd hT
  clear hT
  have hch := crd_head s.data.toList
  go_enter Tryz.func22, Tryz.ntmps22
  go_wp2_with fail
  refine C1.o.mono ?_
  rintro e w1 ⟨⟨B, m, d, rfl, hm, hr, hb1⟩⟩
  have HB1 := hd hb1
  have hsw := hb1.size
  clear hb1
  rcases hch with h0 | ⟨f, t, h0, hk⟩
  · have HTN := hd (title_nil h0)
    rw [h0] at hm
    obtain rfl : m = 0 := hm
    clear h0 hr
    go_wp2_with fail
    go_loopw [14, 6, 2] (fun i _ _ wr => i = .int .i64 0 ∧ Hd (w1 = wr)) (fun _ _ _ _ => 0)
    case atStart => exact ⟨rfl, hd rfl⟩
    case round =>
      obtain ⟨rfl, hw⟩ := hrel
      have HW := hd (show Below w.heap.size w wr by rw [← hw.o]; exact HB1.o)
      clear hw
      go_wp2
      go_ret
      exact ⟨retS (by rw [← HTT.o, HTN.o]; rfl), HW.o⟩
  · have HTN := hd (title_cons h0)
    rw [h0] at hm hr
    have hm1 : 0 < m := by rw [hm]; simp
    obtain ⟨g, hA, _, hg, _, _, hcl, _⟩ := hr.at_ hm1
    subst hA
    have hcf : ∀ j u, j < 3 → (fEnc f)[j]? = some u → w1.cell? ⟨g, j, none⟩ = some u := fun j u hj hv => by
      have := fsE_at (f :: t) 0 (by simp) j hj
      rw [Nat.zero_mul, Nat.zero_add] at this
      exact hcl _ _ (this.trans hv)
    have c0 := hcf 0 _ (by omega) rfl
    have c1 := hcf 1 _ (by omega) rfl
    have c2 := hcf 2 _ (by omega) rfl
    obtain ⟨fk, fl, fv⟩ := f
    simp only at hk
    subst hk
    have hmi : (0 : Int) < (m : Int) := by omega
    clear hcf hcl h0 hr hm
    go_wp2_with fail
    go_loopw [14, 6, 2] (fun i _ _ wr => i = .int .i64 0 ∧ Hd (w1 = wr)) (fun _ _ _ _ => 0)
    case atStart => exact ⟨rfl, hd rfl⟩
    case round =>
      obtain ⟨rfl, hw⟩ := hrel
      obtain rfl := hw.o
      go_wp2
      go_ret
      exact ⟨retS (by rw [← HTT.o, HTN.o]), HB1.o.alloc hsw _⟩

end Go.Proofs.YtpejlcaoggedfaaGreatDoor
namespace Go.Proofs.YtpejlcaoggedfaaGreatDoor
open Go.RowKit

def fx : Fld := ⟨6, 0, [120]⟩
def fa : Fld := ⟨1, 0, [65, 110, 110]⟩
def sFA : List UInt8 := [110, 97, 109, 101, 58, 65, 110, 110, 10, 110, 111, 116, 101, 58, 120, 10]
theorem may_plain {k : Int} {v : List UInt8} (hk : k = 6 ∨ k = 1) (h : cleanT v = v ∧ cleanE v = 0) : MayF ⟨k, 0, v⟩ := by
  have hk3 : ¬ k = 3 := by omega
  have hk4 : ¬ k = 4 := by omega
  have hk5 : ¬ k = 5 := by omega
  refine ⟨?_, ?_⟩
  · show (if okKL k 0 then valE k v else 1) = 0
    rw [if_pos (show okKL k 0 from ⟨by omega, by omega, .inl rfl⟩)]
    unfold valE
    rw [if_neg hk3, if_neg hk4, if_neg (fun h => hk5 h.2.1)]
    exact h.2
  · show valT k v = v
    unfold valT
    rw [if_neg hk3, if_neg hk4]
    exact h.1
theorem fx_may : MayF fx := may_plain (.inl rfl) (clean_plain (by intro c hc; simp at hc; subst hc; decide) (by decide) (by decide))
theorem fa_may : MayF fa := may_plain (.inr rfl) (clean_plain (by intro c hc; simp at hc; rcases hc with rfl | rfl <;> decide) (by decide) (by decide))
theorem fa_less : LessP fa fx := .inl (by decide)
theorem fa_rises : Rises [fa, fx] := List.pairwise_cons.2 ⟨fun y hy => by rw [List.mem_singleton.1 hy]; exact fa_less, List.pairwise_singleton _ _⟩
theorem fxa_may : AllMay [fx, fa] := fun f hf => by simp at hf; rcases hf with rfl | rfl; exact fx_may; exact fa_may
theorem fax_may : AllMay [fa, fx] := fun f hf => by simp at hf; rcases hf with rfl | rfl; exact fa_may; exact fx_may
theorem fxa_cans : cans [fx, fa] = [fa, fx] := by
  unfold cans
  rw [map_may fxa_may]
  exact (rise_of fa_rises (fun x => by simp; exact or_comm)).symm
theorem fax_cans : cans [fa, fx] = [fa, fx] := cans_self fax_may fa_rises
theorem fax_text : textL [fa, fx] = sFA := by
  unfold textL
  simp only [List.flatMap_cons, List.flatMap_nil]
  rw [line_yes fa_may, line_yes fx_may]
  rfl
theorem fax_cnt : CntP [fa, fx] := by decide
theorem fxa_e : cardE [fx, fa] = 0 := cardE_of (errL_of fun f hf => (fxa_may f hf).1) (by rw [fxa_cans]; decide) (by rw [fxa_cans]; exact fax_cnt) (by rw [fxa_cans, fax_text]; decide)
theorem fax_e : cardE [fa, fx] = 0 := cardE_of (errL_of fun f hf => (fax_may f hf).1) (by rw [fax_cans]; decide) (by rw [fax_cans]; exact fax_cnt) (by rw [fax_cans, fax_text]; decide)
theorem fxa_t : cardT [fx, fa] = sFA := by unfold cardT; rw [if_pos fxa_e, fxa_cans, fax_text]
theorem fax_reads : Reads sFA [fa, fx] := ⟨⟨fax_e, fax_cans⟩, fax_text⟩

set_option maxRecDepth 100000 in
set_option maxHeartbeats 2000000 in
theorem cfirst_calls (w : World) (ht : Tbs w) : Calls Tryz.prog 11 #[] w fun e w' => e = .returned (.bool true) ∧ Below w.heap.size w w' := by
  obtain ⟨X, hX⟩ : ∃ X, X = w.alloc (.cells #[.int .i64 6, .int .i64 0, .string ⟨#[120]⟩, .int .i64 1, .int .i64 0, .string ⟨#[65, 110, 110]⟩] 36) := ⟨_, rfl⟩
  have hbX : Below w.heap.size w X := by rw [hX]; exact (Below.refl _ w).alloc (Nat.le_refl _) _
  have hblk : Blk X w.heap.size 36 #[.int .i64 6, .int .i64 0, .string ⟨#[120]⟩, .int .i64 1, .int .i64 0, .string ⟨#[65, 110, 110]⟩] := by rw [hX]; exact Blk.new _ _ _
  have hrd : Rds X (some ⟨w.heap.size, 0, none⟩) 2 3 (fsE [fx, fa]) := ⟨rfl, fun _ => ⟨_, 0, rfl, hblk.lt, fun j u hu => by
    rw [Nat.zero_add, hblk.cell]
    rw [← hu]
    exact (Array.getElem?_toList ..).symm⟩⟩
  have C1 := ctext_calls X (ht.below hbX) _ 2 2 _ rfl hrd (by omega) (fun f hf => by have := may_len (fxa_may f hf); omega)
  rw [fxa_t, fxa_e] at C1
  have C2 := fun W (h : Below w.heap.size w W) => cis_calls (bs sFA) (by decide) W (ht.below h)
  have C3 := fun W (h : Below w.heap.size w W) => title_calls (bs sFA) (by decide) W (ht.below h)
  rw [bs_data, (crd_yes fax_reads).2] at C2
  rw [bs_data, title_cons (crd_yes fax_reads).1] at C3
  have hb0 : bs sFA = ⟨#[110, 97, 109, 101, 58, 65, 110, 110, 10, 110, 111, 116, 101, 58, 120, 10]⟩ := rfl
  have hb1 : bs fa.v = ⟨#[65, 110, 110]⟩ := rfl
  rw [hb0] at C1 C2 C3
  rw [hb1] at C3
  rw [show decide ((0 : Int) = 0) = true from rfl] at C2
  have H1 := hd C1
  have H2 := hd C2
  have H3 := hd C3
  have HBX := hd hbX
  have hx := hd hX
  clear hX hbX hblk hrd C1 C2 C3 hb0 hb1 ht
  go_enter Tryz.func11, Tryz.ntmps11
  go_wp2_with fail
  rw [← hx.o]
  refine H1.o.mono ?_
  rintro e w1 ⟨rfl, hb1⟩
  have HB1 := hd (HBX.o.trans (hb1.mono HBX.o.size))
  clear hb1
  go_wp2_with fail
  refine (H2.o _ HB1.o).mono ?_
  rintro e w2 ⟨rfl, hb2⟩
  have HB2 := hd (HB1.o.trans (hb2.mono HB1.o.size))
  clear hb2
  go_wp2_with fail
  refine (H3.o _ HB2.o).mono ?_
  rintro e w3 ⟨rfl, hb3⟩
  have HB3 := hd (HB2.o.trans (hb3.mono HB2.o.size))
  clear hb3
  go_wp2
  go_ret
  exact ⟨rfl, HB3.o⟩

/-- Few fields, short ones. -/
def LightP (l : List Fld) : Prop := l.length ≤ 30 ∧ ∀ f ∈ l, f.v.length ≤ 200
instance (l : List Fld) : Decidable (LightP l) := by unfold LightP; infer_instance
set_option maxHeartbeats 1000000 in
theorem light_calls (A : Option Addr) (n c : Nat) (l : List Fld) (hn : n = l.length) (w : World) (hr : Rds w A n 3 (fsE l)) (hb : n ≤ maxLen) :
    Calls Tryz.prog 12 #[.slice A n c] w fun e w' => e = .returned (.bool (decide (LightP l))) ∧ w = w' := by
  obtain ⟨v, hv⟩ : ∃ v, decide (LightP l) = v := ⟨_, rfl⟩
  rw [hv]
  have HT := hd (show LightP l → v = true from fun h => by rw [← hv]; exact decide_eq_true h)
  have HF := hd (show ¬ LightP l → v = false from fun h => by rw [← hv]; exact decide_eq_false h)
  have HN := hd hn
  have HR := hd hr
  unfold maxLen at hb
  clear hv hn hr
  by_cases h30 : 30 < n
  · have HV := hd (HF.o (fun h => by have := h.1; rw [← HN.o] at this; omega))
    have h30i : (30 : Int) < (n : Int) := by omega
    go_enter Tryz.func12, Tryz.ntmps12
    go_wp2
    go_ret
    exact ⟨retBB HV.o.symm, rfl⟩
  · have h30i : ¬ (30 : Int) < (n : Int) := by omega
    go_enter Tryz.func12, Tryz.ntmps12
    go_wp2_with fail
    go_loop [3, 2] (fun i _ => ∃ k : Nat, i = .int .i64 k ∧ k ≤ n ∧ Hd (∀ f ∈ l.take k, f.v.length ≤ 200)) (fun i _ => n - (intOf i).toNat)
    case atStart => exact ⟨0, rfl, Nat.zero_le _, hd (fun f hf => by simp at hf)⟩
    case round =>
      obtain ⟨k, rfl, hk, HL⟩ := hrel
      by_cases hlt : k < n
      · have hlti : decide ((k : Int) < (n : Int)) = true := by simp; omega
        have hkl : k < l.length := by rw [← HN.o]; exact hlt
        obtain ⟨f, hf⟩ : ∃ f, l[k]'hkl = f := ⟨_, rfl⟩
        have HFK := hd hf
        obtain ⟨g, o, hA, hg, hc⟩ := HR.o.at_ (by omega)
        subst hA
        have c2 : w.cell? ⟨g, o + k * 3 + 2, none⟩ = some (.string (bs f.v)) := by
          rw [Nat.add_assoc]
          exact hc _ _ ((fsE_at l k hkl 2 (by omega)).trans (by rw [hf]; rfl))
        have hz : (bs f.v).size = f.v.length := bs_size _
        clear hc hf
        by_cases h2 : 200 < (bs f.v).size
        · have HV := hd (HF.o (fun h => by have := h.2 f (by rw [← HFK.o]; exact List.getElem_mem _); omega))
          generalize bs f.v = V at c2 h2
          clear hz
          go_wp2
          go_ret
          exact ⟨retBB HV.o.symm, rfl⟩
        · have HNX := hd (show ∀ f ∈ l.take (k + 1), f.v.length ≤ 200 from fun x hx => by
            rw [List.take_succ_eq_append_getElem hkl] at hx
            rcases List.mem_append.1 hx with hx | hx
            · exact HL.o x hx
            · rw [List.mem_singleton.1 hx, HFK.o]; omega)
          generalize bs f.v = V at c2 h2
          clear hz
          go_wp2
          go_round
          case rel => exact ⟨k + 1, by go_num, by omega, HNX⟩
          case measure => simp [intOf]; omega
      · have hlti : decide ((k : Int) < (n : Int)) = false := by simp; omega
        have HV := hd (HT.o ⟨by rw [← HN.o]; omega, fun f hf => HL.o f (by rw [List.take_of_length_le (by rw [← HN.o]; omega)]; exact hf)⟩)
        go_wp2
        go_ret
        exact ⟨retBB HV.o.symm, rfl⟩

end Go.Proofs.YtpejlcaoggedfaaGreatDoor
namespace Go.Proofs.YtpejlcaoggedfaaGreatDoor
open Go.RowKit Go.Lib

theorem cardE_1 {l : List Fld} (h1 : errL l = 0) (h2 : (cans l).length ≤ 12) (h3 : ¬ CntP (cans l)) : cardE l = 1 := by
  unfold cardE
  rw [if_neg (by simp [h1]), if_neg (by omega), if_pos h3]
theorem cnt_cons (k : Int) (a : Fld) (L : List Fld) : cntK k (a :: L) = cntK k L + (if a.k = k then 1 else 0) := by
  unfold cntK
  rw [List.countP_cons]
  simp
theorem cnt_mem {k : Int} {f : Fld} {L : List Fld} (h : f ∈ L) (hk : f.k = k) : 1 ≤ cntK k L := List.countP_pos_iff.2 ⟨f, h, by simpa using hk⟩
theorem cnt2 {k : Int} {f x : Fld} (hn : f ≠ x) (hf : f.k = k) (hx : x.k = k) : ∀ {L : List Fld}, f ∈ L → x ∈ L → 2 ≤ cntK k L
  | [], h, _ => by cases h
  | a :: L, h1, h2 => by
    rw [cnt_cons]
    rcases List.mem_cons.1 h1 with e1 | k1
    · rcases List.mem_cons.1 h2 with e2 | k2
      · exact absurd (e1.trans e2.symm) hn
      · have := cnt_mem k2 hx
        rw [if_pos (e1 ▸ hf)]; omega
    · rcases List.mem_cons.1 h2 with e2 | k2
      · have := cnt_mem k1 hf
        rw [if_pos (e2 ▸ hx)]; omega
      · have := cnt2 hn hf hx k1 k2
        omega
theorem ok_len {l : List Fld} (h : CardOk l) : l.length ≤ 12 := by have := (cardE_0 h.1).2.1; rwa [h.2] at this
theorem ok_cnt {l : List Fld} (h : CardOk l) : CntP l := by have := (cardE_0 h.1).2.2.1; rwa [h.2] at this
theorem tail_e {f : Fld} {t : List Fld} (h : CardOk (f :: t)) (hk : f.k = 1) : cardE t = 1 := by
  have hm : AllMay t := fun g hg => ok_may h g (by simp [hg])
  have hs := cans_self hm (List.pairwise_cons.1 (ok_rises h)).2
  have hc := ok_cnt h
  have hl := ok_len h
  refine cardE_1 (errL_of fun g hg => (hm g hg).1) ?_ ?_
  · rw [hs]; simp at hl; omega
  · rw [hs]
    rintro ⟨h1, _⟩
    have h2 := hc.1
    rw [cnt_cons, if_pos hk] at h2
    omega
theorem name_val (v : List UInt8) : fldE ⟨1, 0, v⟩ = cleanE v := by
  show (if okKL 1 0 then valE 1 v else 1) = _
  rw [if_pos (by decide)]
  unfold valE
  rw [if_neg (by decide), if_neg (by decide), if_neg (fun h => absurd h.2.1 (by decide))]
theorem name_C {v : List UInt8} (h : cleanE v = 0) : fldC ⟨1, 0, v⟩ = ⟨1, 0, cleanT v⟩ := by
  rw [fldC, if_pos ((name_val v).trans h)]
  show (⟨1, 0, valT 1 v⟩ : Fld) = _
  unfold valT
  rw [if_neg (by decide), if_neg (by decide)]
theorem name_self {f : Fld} (h : MayF f) (hk : f.k = 1) : f.l = 0 ∧ f.v ≠ [] := by
  have h1 := may_ok h
  rw [hk] at h1
  have hl : f.l = 0 := by
    rcases h1.2.2 with h | ⟨_, h⟩ | ⟨_, h⟩
    · exact h
    · omega
    · omega
  have e : f = ⟨1, 0, f.v⟩ := fld_ext hk hl rfl
  have h0 := h.1
  rw [e, name_val] at h0
  have hv := h.2
  rw [hk, valT, if_neg (by decide), if_neg (by decide)] at hv
  obtain ⟨_, h2, _, h4⟩ := cleanE_0 h0
  refine ⟨hl, fun hn => ?_⟩
  rw [hv, hn] at h4
  exact h2 (by rw [hn]; exact h4.symm)
theorem errL_app {l m : List Fld} (h : errL (l ++ m) = 0) : errL m = 0 := errL_of fun f hf => errL_0 h f (by simp [hf])
theorem name_e {f : Fld} {t v : List _} (h : CardOk (f :: t)) (hk : f.k = 1) : cardE ((f :: t) ++ [⟨1, 0, v⟩]) = 0 ↔ f.v = cleanT v := by
  have hm := ok_may h
  have hf := name_self (hm f (by simp)) hk
  by_cases hv : cleanE v = 0
  · have hmap : ((f :: t) ++ [(⟨1, 0, v⟩ : Fld)]).map fldC = (f :: t) ++ [⟨1, 0, cleanT v⟩] := by
      rw [List.map_append, map_may hm]
      simp [name_C hv]
    constructor
    · intro h0
      refine Classical.byContradiction fun hne => ?_
      have h3 := (cardE_0 h0).2.2.1.1
      rw [cans, hmap] at h3
      have := cnt2 (k := 1) (f := f) (x := ⟨1, 0, cleanT v⟩) (L := riseF ((f :: t) ++ [⟨1, 0, cleanT v⟩])) (fun e => hne (by rw [e])) hk rfl ((mem_rise _ _).2 (by simp)) ((mem_rise _ _).2 (by simp))
      omega
    · intro e
      have hx : f = ⟨1, 0, cleanT v⟩ := fld_ext hk hf.1 e
      have hc : cans ((f :: t) ++ [⟨1, 0, v⟩]) = f :: t := by
        rw [cans, hmap, ← hx]
        exact (rise_of (ok_rises h) (fun y => by simp only [List.mem_append, List.mem_singleton]; exact ⟨.inl, fun h => h.elim id (fun e => by simp [e])⟩)).symm
      have h4 := cardE_0 h.1
      rw [h.2] at h4
      refine cardE_of (errL_of fun g hg => ?_) (by rw [hc]; exact h4.2.1) (by rw [hc]; exact h4.2.2.1) (by rw [hc]; exact h4.2.2.2)
      rcases List.mem_append.1 hg with hg | hg
      · exact (hm g hg).1
      · rw [List.mem_singleton.1 hg, name_val]; exact hv
  · constructor
    · intro h0
      have := errL_0 (cardE_0 h0).1 ⟨1, 0, v⟩ (by simp)
      rw [name_val] at this
      exact absurd this hv
    · intro e
      rw [clean_no hv] at e
      exact absurd e hf.2
def dA : Fld := ⟨5, 0, [50, 48, 48, 49, 45, 48, 49, 45, 48, 49]⟩
def dB : Fld := ⟨5, 0, [50, 48, 48, 49, 45, 48, 49, 45, 48, 50]⟩
theorem day_may {v : List UInt8} (h : cleanT v = v ∧ cleanE v = 0) (hd : DayT v) : MayF ⟨5, 0, v⟩ := by
  refine ⟨?_, ?_⟩
  · show (if okKL 5 0 then valE 5 v else 1) = 0
    rw [if_pos (by decide)]
    unfold valE
    rw [if_neg (by decide), if_neg (by decide), if_neg (fun h' => h'.2.2 (by rw [h.1]; exact hd))]
    exact h.2
  · show valT 5 v = v
    unfold valT
    rw [if_neg (by decide), if_neg (by decide)]
    exact h.1
theorem dA_may : MayF dA := day_may (clean_plain (by intro c hc; revert c; decide) (by decide) (by decide)) ⟨2001, 1, 1, by decide, by decide⟩
theorem dB_may : MayF dB := day_may (clean_plain (by intro c hc; revert c; decide) (by decide) (by decide)) ⟨2001, 1, 2, by decide, by decide⟩
theorem days_e {l : List Fld} (h : CardOk l) (hl : l.length ≤ 10) : cardE (l ++ [dA, dB]) = 1 := by
  have hm : AllMay (l ++ [dA, dB]) := fun g hg => by
    rcases List.mem_append.1 hg with hg | hg
    · exact ok_may h g hg
    · simp at hg
      rcases hg with rfl | rfl
      · exact dA_may
      · exact dB_may
  have hlen := rise_len (l ++ [dA, dB])
  refine cardE_1 (errL_of fun g hg => (hm g hg).1) ?_ ?_
  · rw [cans, map_may hm]
    simp at hlen ⊢
    omega
  · rw [cans, map_may hm]
    rintro ⟨_, _, h3⟩
    have := cnt2 (k := 5) (f := dA) (x := dB) (L := riseF (l ++ [dA, dB])) (by decide) rfl rfl ((mem_rise _ _).2 (by simp)) ((mem_rise _ _).2 (by simp))
    omega
def sN : List UInt8 := [110, 97, 109, 101, 58, 65, 110, 110, 10]
theorem fa1_may : AllMay [fa] := fun f hf => by rw [List.mem_singleton.1 hf]; exact fa_may
theorem fa1_cans : cans [fa] = [fa] := cans_self fa1_may (List.pairwise_singleton _ _)
theorem fa1_text : textL [fa] = sN := by
  unfold textL
  simp only [List.flatMap_cons, List.flatMap_nil]
  rw [line_yes fa_may]
  rfl
theorem fa1_reads : Reads sN [fa] := ⟨⟨cardE_of (errL_of fun f hf => (fa1_may f hf).1) (by rw [fa1_cans]; decide) (by rw [fa1_cans]; decide) (by rw [fa1_cans, fa1_text]; decide), fa1_cans⟩, fa1_text⟩
theorem sN_title : titleT sN = fa.v := title_cons (crd_yes fa1_reads).1

end Go.Proofs.YtpejlcaoggedfaaGreatDoor
namespace Go.Proofs.YtpejlcaoggedfaaGreatDoor
open Go.RowKit

theorem cards_same {l m : List Fld} (hl : AllMay l) (hm : AllMay m) (h : ∀ f, f ∈ l ↔ f ∈ m) : cans l = cans m ∧ cardE l = cardE m ∧ cardT l = cardT m := by
  have hc : cans l = cans m := by unfold cans; rw [map_may hl, map_may hm]; exact rise_same h
  have e1 := errL_of (fun f hf => (hl f hf).1)
  have e2 := errL_of (fun f hf => (hm f hf).1)
  have he : cardE l = cardE m := by unfold cardE; rw [e1, e2, hc]
  exact ⟨hc, he, by unfold cardT; rw [he, hc]⟩
theorem card_self {l m : List Fld} {s : List UInt8} (hm : Reads s m) (hl : AllMay l) (h : ∀ f, f ∈ l ↔ f ∈ m) : cardE l = 0 ∧ cardT l = s := by
  obtain ⟨_, h2, h3⟩ := cards_same hl (ok_may hm.1) h
  have := reads_text hm
  exact ⟨h2.trans this.1, h3.trans this.2⟩
theorem one_kind {x : List Fld} (hx : CardOk x) {k : Nat} (hk : 1 ≤ k) (hk6 : k ≤ 6) (hm : ¬ Many k) {f g : Fld} (hf : f ∈ x) (hg : g ∈ x) (kf : f.k = k) (kg : g.k = k) : f = g := by
  refine Classical.byContradiction fun hne => ?_
  have h := cnt2 hne kf kg hf hg
  have hc := ok_cnt hx
  unfold Many at hm
  have h3 : k = 1 ∨ k = 2 ∨ k = 5 := by omega
  rcases h3 with rfl | rfl | rfl
  · have h : 2 ≤ cntK 1 x := h
    have := hc.1; omega
  · have h : 2 ≤ cntK 2 x := h
    have := hc.2.1; omega
  · have h : 2 ≤ cntK 5 x := h
    have := hc.2.2; omega
theorem only_or {x : List Fld} (hx : CardOk x) {k : Nat} (hk : 1 ≤ k) (hk6 : k ≤ 6) (hm : ¬ Many k) : onlyL x k = [] ∨ ∃ f, onlyL x k = [f] := by
  have hr : Rises (onlyL x k) := List.Pairwise.filter _ (ok_rises hx)
  match h : onlyL x k with
  | [] => exact .inl rfl
  | [f] => exact .inr ⟨f, rfl⟩
  | f :: g :: t =>
    exfalso
    have hf : f ∈ onlyL x k := by rw [h]; simp
    have hg : g ∈ onlyL x k := by rw [h]; simp
    have e := one_kind hx hk hk6 hm (mem_only.1 hf).1 (mem_only.1 hg).1 (mem_only.1 hf).2 (mem_only.1 hg).2
    rw [h] at hr
    have := (List.pairwise_cons.1 hr).1 g (by simp)
    rw [e] at this
    exact less_irr g this
theorem only_take1 {x : List Fld} (hx : CardOk x) {k : Nat} (hk : 1 ≤ k) (hk6 : k ≤ 6) (hm : ¬ Many k) : (onlyL x k).take 1 = onlyL x k ∧ (onlyL x k).length ≤ 1 := by
  rcases only_or hx hk hk6 hm with h | ⟨f, h⟩ <;> rw [h] <;> simp

theorem crd_ok {s : List UInt8} (h : crdE s = 0) : CardOk (crdF s) := by
  rcases crd_or s with ⟨l, h1, e, _⟩ | ⟨_, _, e⟩
  · rw [e]; exact h1.1
  · rw [e] at h; cases h

/-- The document's choice. -/
def bothL (o x y : List Fld) (k : Nat) : List Fld := (x ++ y).filter (fun f => decide (f.k = k ∧ ((f ∈ x ∧ f ∈ y) ∨ f ∉ o)))
def pickR (o x y : List Fld) (k : Nat) : List Fld :=
  if Many k then bothL o x y k else if onlyL x k = onlyL o k then onlyL y k else onlyL x k
def mrgR (o x y : List Fld) : Nat → List Fld
  | 0 => []
  | k + 1 => mrgR o x y k ++ pickR o x y (k + 1)
theorem mem_both {o x y : List Fld} {k : Nat} {f : Fld} : f ∈ bothL o x y k ↔ (f ∈ x ∨ f ∈ y) ∧ f.k = k ∧ ((f ∈ x ∧ f ∈ y) ∨ f ∉ o) := by
  simp only [bothL, List.mem_filter, List.mem_append, decide_eq_true_eq]
theorem mem_many {o x y : List Fld} {k : Nat} {f : Fld} (h : Many k) : f ∈ pickK o x y k ↔ (f ∈ x ∨ f ∈ y) ∧ f.k = k ∧ ((f ∈ x ∧ f ∈ y) ∨ f ∉ o) := by
  unfold pickK
  rw [if_pos h]
  simp only [List.mem_append, mem_keep, mem_wo, mem_only]
  by_cases a : f ∈ x <;> by_cases b : f ∈ y <;> by_cases c : f ∈ o <;> by_cases d : f.k = k <;> simp [a, b, c, d]
theorem mem_pickR {o x y : List Fld} {k : Nat} {f : Fld} : f ∈ pickR o x y k ↔ f ∈ pickK o x y k := by
  by_cases h : Many k
  · rw [mem_many h, pickR, if_pos h, mem_both]
  · unfold pickR pickK
    rw [if_neg h, if_neg h]
theorem mem_mrgR {o x y : List Fld} {f : Fld} : ∀ {k : Nat}, f ∈ mrgR o x y k ↔ f ∈ mrgL o x y k
  | 0 => Iff.rfl
  | k + 1 => by rw [mrgR, mrgL, List.mem_append, List.mem_append, mem_mrgR, mem_pickR]
theorem bothL_take (o x y : List Fld) (k j : Nat) (h : j < (x ++ y).length) : ((x ++ y).take (j + 1)).filter (fun f => decide (f.k = (k : Int) ∧ ((f ∈ x ∧ f ∈ y) ∨ f ∉ o))) = ((x ++ y).take j).filter (fun f => decide (f.k = (k : Int) ∧ ((f ∈ x ∧ f ∈ y) ∨ f ∉ o))) ++ (if (x ++ y)[j].k = (k : Int) ∧ (((x ++ y)[j] ∈ x ∧ (x ++ y)[j] ∈ y) ∨ (x ++ y)[j] ∉ o) then [(x ++ y)[j]] else []) := by
  rw [List.take_succ_eq_append_getElem h, List.filter_append]
  congr 1
  by_cases c : (x ++ y)[j].k = (k : Int) ∧ (((x ++ y)[j] ∈ x ∧ (x ++ y)[j] ∈ y) ∨ (x ++ y)[j] ∉ o)
  · rw [if_pos c]; simp only [List.filter, decide_eq_true c]
  · rw [if_neg c]; simp only [List.filter, decide_eq_false c]
theorem pickR_len (o x y : List Fld) (k : Nat) : (pickR o x y k).length ≤ x.length + y.length := by
  have h1 : (bothL o x y k).length ≤ (x ++ y).length := List.length_filter_le _ _
  have h4 := only_len x k
  have h5 := only_len y k
  rw [List.length_append] at h1
  unfold pickR
  split
  · exact h1
  · split <;> omega
theorem mrgR_len (o x y : List Fld) : ∀ k, (mrgR o x y k).length ≤ k * (x.length + y.length)
  | 0 => by simp [mrgR]
  | k + 1 => by
    have := mrgR_len o x y k
    have := pickR_len o x y (k + 1)
    rw [mrgR, List.length_append, Nat.succ_mul]
    omega
theorem all_may_mrg {o x y : List Fld} {k : Nat} (hx : AllMay x) (hy : AllMay y) : AllMay (mrgL o x y k) := fun f hf => by
  rcases mrg_mem hf with h | h
  · exact hx f h
  · exact hy f h
theorem all_may_mrgR {o x y : List Fld} {k : Nat} (hx : AllMay x) (hy : AllMay y) : AllMay (mrgR o x y k) := fun f hf => all_may_mrg hx hy f (mem_mrgR.1 hf)

/-- Each kind is one of six. -/
theorem kind6 {x : List Fld} (hx : AllMay x) {f : Fld} (hf : f ∈ x) : ∃ j : Nat, 1 ≤ j ∧ j ≤ 6 ∧ f.k = j := by
  obtain ⟨h1, h2, _⟩ := may_ok (hx f hf)
  exact ⟨f.k.toNat, by omega, by omega, by omega⟩
/-- Of which the choice of a kind is known, all are known. -/
theorem mrg_of {o x y a : List Fld} (ha : AllMay a) (h : ∀ k f, f ∈ pickK o x y k ↔ f ∈ a ∧ f.k = (k : Nat)) : ∀ f, f ∈ mrgL o x y 6 ↔ f ∈ a := by
  intro f
  rw [mem_mrg]
  constructor
  · rintro ⟨j, _, _, hj⟩; exact ((h j f).1 hj).1
  · intro hf
    obtain ⟨j, h1, h2, h3⟩ := kind6 ha hf
    exact ⟨j, h1, h2, (h j f).2 ⟨hf, h3⟩⟩
theorem pick1 (o a : List Fld) (k : Nat) (f : Fld) : f ∈ pickK o o a k ↔ f ∈ a ∧ f.k = (k : Nat) := by
  by_cases h : Many k
  · rw [mem_many h]
    by_cases a1 : f ∈ a <;> by_cases b : f ∈ o <;> by_cases d : f.k = k <;> simp [a1, b, d]
  · unfold pickK; rw [if_neg h, if_pos rfl, mem_only]
theorem pick2 (o a : List Fld) (k : Nat) (f : Fld) : f ∈ pickK o a o k ↔ f ∈ a ∧ f.k = (k : Nat) := by
  by_cases h : Many k
  · rw [mem_many h]
    by_cases a1 : f ∈ a <;> by_cases b : f ∈ o <;> by_cases d : f.k = k <;> simp [a1, b, d]
  · unfold pickK
    rw [if_neg h]
    split
    · next e => rw [← e, mem_only]
    · rw [mem_only]
theorem pick3 (o a : List Fld) (k : Nat) (f : Fld) : f ∈ pickK o a a k ↔ f ∈ a ∧ f.k = (k : Nat) := by
  by_cases h : Many k
  · rw [mem_many h]
    by_cases a1 : f ∈ a <;> by_cases b : f ∈ o <;> by_cases d : f.k = k <;> simp [a1, b, d]
  · unfold pickK
    rw [if_neg h]
    split <;> rw [mem_only]
theorem torn1 (o a : List Fld) (k : Nat) : tornK o o a k = 0 := by unfold tornK; rw [if_pos (.inr (.inl rfl))]
theorem torn2 (o a : List Fld) (k : Nat) : tornK o a o k = 0 := by unfold tornK; rw [if_pos (.inr (.inr (.inl rfl)))]
theorem torn3 (o a : List Fld) (k : Nat) : tornK o a a k = 0 := by unfold tornK; rw [if_pos (.inr (.inr (.inr rfl)))]
theorem mrgN_of {o x y : List Fld} (h : ∀ k, tornK o x y k = 0) : ∀ k, mrgN o x y k = 0
  | 0 => rfl
  | k + 1 => by rw [mrgN, mrgN_of h k, h]
theorem torn_turn (o x y : List Fld) (k : Nat) : tornK o x y k = tornK o y x k := by
  have e : ∀ x y : List Fld, (Many k ∨ onlyL x k = onlyL o k ∨ onlyL y k = onlyL o k ∨ onlyL x k = onlyL y k) → (Many k ∨ onlyL y k = onlyL o k ∨ onlyL x k = onlyL o k ∨ onlyL y k = onlyL x k) := by
    rintro x y (h | h | h | h)
    · exact .inl h
    · exact .inr (.inr (.inl h))
    · exact .inr (.inl h)
    · exact .inr (.inr (.inr h.symm))
  unfold tornK
  by_cases h : Many k ∨ onlyL x k = onlyL o k ∨ onlyL y k = onlyL o k ∨ onlyL x k = onlyL y k
  · rw [if_pos h, if_pos (e x y h)]
  · rw [if_neg h, if_neg (fun k => h (e y x k))]
theorem mrgN_turn (o x y : List Fld) : ∀ k, mrgN o x y k = mrgN o y x k
  | 0 => rfl
  | k + 1 => by rw [mrgN, mrgN, mrgN_turn o x y k, torn_turn]
theorem mrgN_0 {o x y : List Fld} : ∀ {k : Nat}, mrgN o x y k = 0 → ∀ j, 1 ≤ j → j ≤ k → tornK o x y j = 0
  | 0, _, j, h1, h2 => by omega
  | k + 1, h, j, h1, h2 => by
    rw [mrgN] at h
    by_cases e : j = k + 1
    · subst e; omega
    · exact mrgN_0 (k := k) (by omega) j h1 (by omega)
theorem pick_turn {o x y : List Fld} {k : Nat} (h : tornK o x y k = 0) (f : Fld) : f ∈ pickK o x y k ↔ f ∈ pickK o y x k := by
  by_cases hm : Many k
  · rw [mem_many hm, mem_many hm]
    by_cases a : f ∈ x <;> by_cases b : f ∈ y <;> by_cases c : f ∈ o <;> by_cases d : f.k = k <;> simp [a, b, c, d]
  · have e : pickK o x y k = pickK o y x k := by
      unfold pickK
      rw [if_neg hm, if_neg hm]
      unfold tornK at h
      split at h
      · next c =>
        rcases c with c | c | c | c
        · exact absurd c hm
        · rw [if_pos c]
          by_cases c2 : onlyL y k = onlyL o k
          · rw [if_pos c2, c, c2]
          · rw [if_neg c2]
        · rw [if_pos c]
          by_cases c2 : onlyL x k = onlyL o k
          · rw [if_pos c2, c, c2]
          · rw [if_neg c2]
        · by_cases c2 : onlyL x k = onlyL o k
          · rw [if_pos c2, if_pos (c ▸ c2)]; exact c.symm
          · rw [if_neg c2, if_neg (fun h => c2 (c.trans h))]; exact c
      · omega
    rw [e]
theorem mrg_turn {o x y : List Fld} {k : Nat} (h : mrgN o x y k = 0) (f : Fld) : f ∈ mrgL o x y k ↔ f ∈ mrgL o y x k := by
  rw [mem_mrg, mem_mrg]
  constructor
  · rintro ⟨j, h1, h2, h3⟩; exact ⟨j, h1, h2, (pick_turn (mrgN_0 h j h1 h2) f).1 h3⟩
  · rintro ⟨j, h1, h2, h3⟩; exact ⟨j, h1, h2, (pick_turn (mrgN_0 h j h1 h2) f).2 h3⟩
/-- What both have. -/
theorem mrg_both {o x y : List Fld} (hx : CardOk x) (hy : CardOk y) {f : Fld} (h1 : f ∈ x) (h2 : f ∈ y) : f ∈ mrgL o x y 6 := by
  obtain ⟨j, j1, j6, hk⟩ := kind6 (ok_may hx) h1
  refine mem_mrg.2 ⟨j, j1, j6, ?_⟩
  by_cases hm : Many j
  · exact (mem_many hm).2 ⟨.inl h1, hk, .inl ⟨h1, h2⟩⟩
  · unfold pickK
    rw [if_neg hm]
    split
    · exact mem_only.2 ⟨h2, hk⟩
    · exact mem_only.2 ⟨h1, hk⟩
/-- What is gone and what has come. -/
theorem mem_change {a b : List Fld} (f : Fld) : f ∈ (a.filter (fun f => decide (f ∉ woL a b))) ++ woL b a ↔ f ∈ b := by
  simp only [List.mem_append, List.mem_filter, mem_wo, decide_eq_true_eq]
  by_cases h : f ∈ a <;> by_cases k : f ∈ b <;> simp [h, k]

end Go.Proofs.YtpejlcaoggedfaaGreatDoor
namespace Go.Proofs.YtpejlcaoggedfaaGreatDoor
open Go.RowKit

theorem fld_cases2 (x y : Fld) : x = y ∨ (x.k == y.k) = false ∨ (x.k = y.k ∧ (x.l == y.l) = false) ∨ (x.k = y.k ∧ x.l = y.l ∧ ((bs x.v).toList == (bs y.v).toList) = false) := by
  have e : ∀ l : List UInt8, (bs l).toList = l := fun l => by rw [Lib.toList_data]; rfl
  rw [e, e]
  by_cases h1 : x.k = y.k
  · by_cases h2 : x.l = y.l
    · by_cases h3 : x.v = y.v
      · exact .inl (fld_ext h1 h2 h3)
      · exact .inr (.inr (.inr ⟨h1, h2, by simpa using h3⟩))
    · exact .inr (.inr (.inl ⟨h1, by simpa using h2⟩))
  · exact .inr (.inl (by simpa using h1))

set_option maxRecDepth 100000 in
set_option maxHeartbeats 2000000 in
theorem has_calls (w : World) (A : Option Addr) (n c : Nat) (l : List Fld) (f : Fld) (hn : n = l.length) (hr : Rds w A n 3 (fsE l)) (hs : n ≤ 1000000) :
    Calls Tryz.prog 29 #[.slice A n c, fldV f] w fun e w' => e = .returned (.bool (decide (f ∈ l))) ∧ Below w.heap.size w w' := by
  obtain ⟨v, hv⟩ : ∃ v, decide (f ∈ l) = v := ⟨_, rfl⟩
  rw [hv]
  have HT := hd (show f ∈ l → v = true from fun h => by rw [← hv]; exact decide_eq_true h)
  have HF := hd (show ¬ f ∈ l → v = false from fun h => by rw [← hv]; exact decide_eq_false h)
  have HN := hd hn
  have HR := hd hr
  clear hv hn hr
  have HFF := hd (show f = f from rfl)
  obtain ⟨F, hF⟩ : ∃ F, f = F := ⟨_, rfl⟩
  rw [hF] at HT HF
  have HFE := hd hF
  clear HFF
  obtain ⟨fk, fl, fv⟩ := f
  change Calls _ _ #[_, .agg #[.int .i64 fk, .int .i64 fl, .string (bs fv)]] _ _
  obtain ⟨X, hX⟩ : ∃ X, X = w.alloc (.cells #[.int .i64 fk, .int .i64 fl, .string (bs fv)] 36) := ⟨_, rfl⟩
  have HBX := hd (show Below w.heap.size w X by rw [hX]; exact (Below.refl _ w).alloc (Nat.le_refl _) _)
  have HKX := hd (show Blk X w.heap.size 36 #[.int .i64 fk, .int .i64 fl, .string (bs fv)] by rw [hX]; exact Blk.new _ _ _)
  have HX := hd (show X.heap.size = w.heap.size + 1 by rw [hX]; simp)
  have hx := hd hX
  clear hX hF
  go_enter Tryz.func29, Tryz.ntmps29
  go_wp2_with fail
  rw [← hx.o]
  go_loopw [5, 4] (fun i _ wr => ∃ k : Nat, i = .int .i64 k ∧ k ≤ n ∧ Hd (∀ g ∈ l.take k, g ≠ F) ∧ Hd (Below X.heap.size X wr)) (fun i _ _ => n - (intOf i).toNat)
  case atStart => exact ⟨0, rfl, Nat.zero_le _, hd (fun g hg => by simp at hg), hd (Below.refl _ _)⟩
  case round =>
    obtain ⟨k, rfl, hk, HL, HW⟩ := hrel
    obtain ⟨wi, rfl⟩ : ∃ wi : World, wi = wr := ⟨_, rfl⟩
    have HWW := hd (HBX.o.trans (HW.o.mono (by rw [HX.o]; omega)))
    by_cases hlt : k < n
    · have hlti : decide ((k : Int) < (n : Int)) = true := by simp; omega
      have hkl : k < l.length := by rw [← HN.o]; exact hlt
      obtain ⟨x, hx⟩ : ∃ x, l[k]'hkl = x := ⟨_, rfl⟩
      have HXY := hd hx
      obtain ⟨g, o, hA, _, hc⟩ := (HR.o.below HWW.o).at_ (by omega)
      subst hA
      have hcx : ∀ t u, t < 3 → (fEnc x)[t]? = some u → wi.cell? ⟨g, o + k * 3 + t, none⟩ = some u := fun t u ht hv => by
        rw [Nat.add_assoc]; exact hc _ _ ((fsE_at l k hkl t ht).trans (by rw [hx]; exact hv))
      have x0 := hcx 0 _ (by omega) rfl
      have x1 := hcx 1 _ (by omega) rfl
      have x2 := hcx 2 _ (by omega) rfl
      simp only [Nat.add_zero] at x0
      have k1 := HKX.o.below HW.o (by rw [HX.o]; omega)
      have y0 := k1.at_ 0 rfl
      have y1 := k1.at_ 1 rfl
      have y2 := k1.at_ 2 rfl
      clear hc hcx hx k1
      have hcase := fld_cases2 x ⟨fk, fl, fv⟩
      by_cases hxy : x = ⟨fk, fl, fv⟩
      · have HV := hd (HT.o (by rw [← HFE.o, ← hxy, ← HXY.o]; exact List.getElem_mem _))
        clear hcase HXY
        subst hxy
        go_wp2_with fail
        go_quiet (fail)
        go_wp2
        go_ret
        exact ⟨retBB HV.o.symm, bdrewN HWW.o _⟩
      · have HNX := hd (show ∀ g ∈ l.take (k + 1), g ≠ F from fun g hg => by
          rw [List.take_succ_eq_append_getElem hkl] at hg
          rcases List.mem_append.1 hg with hg | hg
          · exact HL.o g hg
          · rw [List.mem_singleton.1 hg, HXY.o, ← HFE.o]; exact hxy)
        have HNE := hd hxy
        clear hxy HXY
        obtain ⟨xk, xl, xv⟩ := x
        simp only at hcase
        rcases hcase with he | he | ⟨he1, he2⟩ | ⟨he1, he2, he3⟩
        · exact absurd he HNE.o
        · clear HNE
          go_wp2_with fail
          go_quiet (fail)
          go_wp2
          go_roundw
          case rel => exact ⟨k + 1, by go_num, by omega, HNX, hd (bdrewN HW.o _)⟩
          case measure => simp [intOf]; omega
        · clear HNE
          subst he1
          go_wp2_with fail
          go_quiet (fail)
          go_wp2
          go_roundw
          case rel => exact ⟨k + 1, by go_num, by omega, HNX, hd (bdrewN HW.o _)⟩
          case measure => simp [intOf]; omega
        · clear HNE
          subst he1 he2
          go_wp2_with fail
          go_quiet (fail)
          go_wp2
          go_roundw
          case rel => exact ⟨k + 1, by go_num, by omega, HNX, hd (bdrewN HW.o _)⟩
          case measure => simp [intOf]; omega
    · have hlti : decide ((k : Int) < (n : Int)) = false := by simp; omega
      have HV := hd (HF.o (fun h => HL.o F (by rw [List.take_of_length_le (by rw [← HN.o]; omega)]; exact h) rfl))
      go_wp2
      go_ret
      exact ⟨retBB HV.o.symm, HWW.o⟩

end Go.Proofs.YtpejlcaoggedfaaGreatDoor
namespace Go.Proofs.YtpejlcaoggedfaaGreatDoor
open Go.RowKit

structure IdxE (f : Fld) (l : List Fld) (e : Ending) : Prop where
  o : ∃ i : Int, e = .returned (.int .i64 i) ∧ ((f ∈ l ∧ 0 ≤ i) ∨ (f ∉ l ∧ i = -1))

set_option maxRecDepth 100000 in
set_option maxHeartbeats 2000000 in
theorem index_calls' (w : World) (A : Option Addr) (n c : Nat) (l : List Fld) (f F : Fld) (hF : f = F) (hn : n = l.length) (hr : Rds w A n 3 (fsE l)) (hs : n ≤ 1000000) :
    Calls Tryz.prog 74 #[.slice A n c, fldV f] w fun e w' => IdxE F l e ∧ Below w.heap.size w w' := by
  have HN := hd hn
  have HR := hd hr
  clear hn hr
  have HFE := hd hF
  clear hF
  obtain ⟨fk, fl, fv⟩ := f
  change Calls _ _ #[_, .agg #[.int .i64 fk, .int .i64 fl, .string (bs fv)]] _ _
  obtain ⟨X, hX⟩ : ∃ X, X = w.alloc (.cells #[.int .i64 fk, .int .i64 fl, .string (bs fv)] 36) := ⟨_, rfl⟩
  have HBX := hd (show Below w.heap.size w X by rw [hX]; exact (Below.refl _ w).alloc (Nat.le_refl _) _)
  have HKX := hd (show Blk X w.heap.size 36 #[.int .i64 fk, .int .i64 fl, .string (bs fv)] by rw [hX]; exact Blk.new _ _ _)
  have HX := hd (show X.heap.size = w.heap.size + 1 by rw [hX]; simp)
  have hx := hd hX
  clear hX
  go_enter Tryz.func74, Tryz.ntmps74
  go_wp2_with fail
  rw [← hx.o]
  go_loopw [8, 5, 4] (fun i _ _ wr => ∃ k : Nat, i = .int .i64 k ∧ k ≤ n ∧ Hd (∀ g ∈ l.take k, g ≠ F) ∧ Hd (Below X.heap.size X wr)) (fun i _ _ _ => n - (intOf i).toNat)
  case atStart => exact ⟨0, rfl, Nat.zero_le _, hd (fun g hg => by simp at hg), hd (Below.refl _ _)⟩
  case round =>
    obtain ⟨k, rfl, hk, HL, HW⟩ := hrel
    obtain ⟨wi, rfl⟩ : ∃ wi : World, wi = wr := ⟨_, rfl⟩
    have HWW := hd (HBX.o.trans (HW.o.mono (by rw [HX.o]; omega)))
    by_cases hlt : k < n
    · have hlti : decide ((k : Int) < (n : Int)) = true := by simp; omega
      have hkl : k < l.length := by rw [← HN.o]; exact hlt
      obtain ⟨x, hx⟩ : ∃ x, l[k]'hkl = x := ⟨_, rfl⟩
      have HXY := hd hx
      obtain ⟨g, o, hA, _, hc⟩ := (HR.o.below HWW.o).at_ (by omega)
      subst hA
      have hcx : ∀ t u, t < 3 → (fEnc x)[t]? = some u → wi.cell? ⟨g, o + k * 3 + t, none⟩ = some u := fun t u ht hv => by
        rw [Nat.add_assoc]; exact hc _ _ ((fsE_at l k hkl t ht).trans (by rw [hx]; exact hv))
      have x0 := hcx 0 _ (by omega) rfl
      have x1 := hcx 1 _ (by omega) rfl
      have x2 := hcx 2 _ (by omega) rfl
      simp only [Nat.add_zero] at x0
      have k1 := HKX.o.below HW.o (by rw [HX.o]; omega)
      have y0 := k1.at_ 0 rfl
      have y1 := k1.at_ 1 rfl
      have y2 := k1.at_ 2 rfl
      clear hc hcx hx k1
      have hcase := fld_cases2 ⟨fk, fl, fv⟩ x
      by_cases hxy : (⟨fk, fl, fv⟩ : Fld) = x
      · have HV := hd (show F ∈ l by rw [← HFE.o, hxy, ← HXY.o]; exact List.getElem_mem _)
        clear hcase HXY
        subst hxy
        go_wp2_with fail
        go_quiet (fail)
        go_wp2
        go_ret
        exact ⟨⟨⟨(k : Int), rfl, .inl ⟨HV.o, by omega⟩⟩⟩, bdrewN HWW.o _⟩
      · have HNX := hd (show ∀ g ∈ l.take (k + 1), g ≠ F from fun g hg => by
          rw [List.take_succ_eq_append_getElem hkl] at hg
          rcases List.mem_append.1 hg with hg | hg
          · exact HL.o g hg
          · rw [List.mem_singleton.1 hg, HXY.o, ← HFE.o]; exact fun h => hxy h.symm)
        have HNE := hd hxy
        clear hxy HXY
        obtain ⟨xk, xl, xv⟩ := x
        simp only at hcase
        rcases hcase with he | he | ⟨he1, he2⟩ | ⟨he1, he2, he3⟩
        · exact absurd he HNE.o
        · clear HNE
          go_wp2_with fail
          go_quiet (fail)
          go_wp2
          go_roundw
          case rel => exact ⟨k + 1, by go_num, by omega, HNX, hd (bdrewN HW.o _)⟩
          case measure => simp [intOf]; omega
        · clear HNE
          subst he1
          go_wp2_with fail
          go_quiet (fail)
          go_wp2
          go_roundw
          case rel => exact ⟨k + 1, by go_num, by omega, HNX, hd (bdrewN HW.o _)⟩
          case measure => simp [intOf]; omega
        · clear HNE
          subst he1 he2
          go_wp2_with fail
          go_quiet (fail)
          go_wp2
          go_roundw
          case rel => exact ⟨k + 1, by go_num, by omega, HNX, hd (bdrewN HW.o _)⟩
          case measure => simp [intOf]; omega
    · have hlti : decide ((k : Int) < (n : Int)) = false := by simp; omega
      have HV := hd (show F ∉ l from fun h => HL.o F (by rw [List.take_of_length_le (by rw [← HN.o]; omega)]; exact h) rfl)
      go_wp2
      go_ret
      exact ⟨⟨⟨-1, rfl, .inr ⟨HV.o, rfl⟩⟩⟩, HWW.o⟩

set_option maxRecDepth 100000 in
set_option maxHeartbeats 2000000 in
theorem fcontains_calls (w : World) (A : Option Addr) (n c : Nat) (l : List Fld) (f : Fld) (hn : n = l.length) (hr : Rds w A n 3 (fsE l)) (hs : n ≤ 1000000) :
    Calls Tryz.prog 46 #[.slice A n c, fldV f] w fun e w' => e = .returned (.bool (decide (f ∈ l))) ∧ Below w.heap.size w w' := by
  obtain ⟨v, hv⟩ : ∃ v, decide (f ∈ l) = v := ⟨_, rfl⟩
  rw [hv]
  have HT := hd (show f ∈ l → v = true from fun h => by rw [← hv]; exact decide_eq_true h)
  have HF := hd (show ¬ f ∈ l → v = false from fun h => by rw [← hv]; exact decide_eq_false h)
  obtain ⟨F, hF⟩ : ∃ F, f = F := ⟨_, rfl⟩
  have HI := hd (fun W (h : Below w.heap.size w W) => index_calls' W A n c l f F hF hn (hr.below h) hs)
  rw [hF] at HT HF
  clear hv hn hr hF
  obtain ⟨fk, fl, fv⟩ := f
  change Calls _ _ #[_, .agg #[.int .i64 fk, .int .i64 fl, .string (bs fv)]] _ _
  have HBX := hd ((Below.refl w.heap.size w).alloc (Nat.le_refl _) (.cells #[.int .i64 fk, .int .i64 fl, .string (bs fv)] 36))
  go_enter Tryz.func46, Tryz.ntmps46
  go_wp2_with fail
  refine (HI.o _ HBX.o).mono ?_
  rintro e w2 ⟨⟨⟨i, rfl, hi⟩⟩, hb2⟩
  have HB2 := hd (HBX.o.trans (hb2.mono HBX.o.size))
  clear hb2
  rcases hi with ⟨hm, h0⟩ | ⟨hm, rfl⟩
  · have HV := hd (HT.o hm)
    clear hm
    go_wp2
    go_ret
    exact ⟨retBB (by first | (rw [HV.o]; done) | (rw [HV.o]; simpa using h0)), HB2.o⟩
  · have HV := hd (HF.o hm)
    clear hm
    go_wp2
    go_ret
    exact ⟨retBB (by first | (rw [HV.o]; done) | (rw [HV.o]; rfl)), HB2.o⟩

end Go.Proofs.YtpejlcaoggedfaaGreatDoor
namespace Go.Proofs.YtpejlcaoggedfaaGreatDoor
open Go.RowKit

/-- A row of fields that is handed back. -/
structure FsR (w : World) (L : List Fld) (e : Ending) (w' : World) : Prop where
  o : ∃ (A : Option Addr) (m c : Nat), e = .returned (.slice A m c) ∧ m = L.length ∧ Row w' (From w.heap.size) 36 3 A m c (fsE L) ∧ Below w.heap.size w w'

set_option maxRecDepth 100000 in
set_option maxHeartbeats 4000000 in
theorem wo_calls (w : World) (A B : Option Addr) (n c n2 c2 : Nat) (l m : List Fld) (hn : n = l.length) (hr : Rds w A n 3 (fsE l)) (hn2 : n2 = m.length) (hr2 : Rds w B n2 3 (fsE m)) (hb : n ≤ 1000) (hb2 : n2 ≤ 1000) :
    Calls Tryz.prog 47 #[.slice A n c, .slice B n2 c2] w fun e w' => FsR w (woL l m) e w' := by
  obtain ⟨i0, hi, hz0, hz1, hz2⟩ := info_parts fInfo
  have HN := hd hn
  have HR := hd hr
  have HC := hd (fun f W (h : Below w.heap.size w W) => fcontains_calls W B n2 c2 m f hn2 (hr2.below h) (by omega))
  clear hn hr hn2 hr2
  go_enter Tryz.func47, Tryz.ntmps47
  go_wp2_with fail
  go_loopw [10, 7, 5] (fun i _ out wr => ∃ (k : Nat) (D : Option Addr) (q d : Nat), i = .int .i64 k ∧ k ≤ n ∧ out = .slice D q d ∧ q ≤ k ∧ Hd (q = (woL (l.take k) m).length) ∧ Hd (Row wr (From w.heap.size) 36 3 D q d (fsE (woL (l.take k) m))) ∧ Hd (Below w.heap.size w wr)) (fun i _ _ _ => n - (intOf i).toNat)
  case atStart => exact ⟨0, none, 0, 0, rfl, Nat.zero_le _, rfl, Nat.zero_le _, hd rfl, hd (Row.nil _ _ _ _), hd (Below.refl _ _)⟩
  case round =>
    obtain ⟨k, D, q, d, rfl, hk, rfl, hqk, HQ, HO, HW⟩ := hrel
    obtain ⟨wi, rfl⟩ : ∃ wi : World, wi = wr := ⟨_, rfl⟩
    by_cases hlt : k < n
    · have hlti : decide ((k : Int) < (n : Int)) = true := by simp; omega
      have hkl : k < l.length := by rw [← HN.o]; exact hlt
      have HST := hd (wo_take l m k hkl)
      obtain ⟨f, hf⟩ : ∃ f, l[k]'hkl = f := ⟨_, rfl⟩
      rw [hf] at HST
      obtain ⟨g, o, rfl, hg, hc⟩ := (HR.o.below HW.o).at_ (by omega)
      have hcf : ∀ t u, t < 3 → (fEnc f)[t]? = some u → wi.cell? ⟨g, o + k * 3 + t, none⟩ = some u := fun t u ht hv => by
        rw [Nat.add_assoc]
        exact hc _ _ ((fsE_at l k hkl t ht).trans (by rw [hf]; exact hv))
      have c0 := hcf 0 _ (by omega) rfl
      have c1 := hcf 1 _ (by omega) rfl
      have c2 := hcf 2 _ (by omega) rfl
      rw [Nat.add_zero] at c0
      clear hcf hc hf
      obtain ⟨v, hv⟩ : ∃ v, decide (f ∈ m) = v := ⟨_, rfl⟩
      have K1 := HC.o f
      rw [hv] at K1
      have HV := hd hv
      obtain ⟨fk, fl, fv⟩ := f
      simp only [fldV] at K1
      replace K1 := hd K1
      have HBB := hd (HW.o.alloc HW.o.size (.cells #[.int .i64 fk, .int .i64 fl, .string (bs fv)] 36))
      have HRB := hd (HO.o.alloc (.cells #[.int .i64 fk, .int .i64 fl, .string (bs fv)] 36))
      have HKB := hd (Blk.new wi 36 #[.int .i64 fk, .int .i64 fl, .string (bs fv)])
      clear hv
      go_wp2_with fail
      refine (K1.o _ HBB.o).mono ?_
      rintro e w2 ⟨rfl, hb3⟩
      have HR2 := hd (HRB.o.below hb3)
      have HW2 := hd (HBB.o.trans (hb3.mono HBB.o.size))
      have hsz := HW2.o.size
      have kk := HKB.o.below hb3 (Blk.lt HKB.o)
      have d0 := kk.at_ 0 rfl
      have d1 := kk.at_ 1 rfl
      have d2 := kk.at_ 2 rfl
      clear hb3 c0 c1 c2 kk
      cases v with
      | true =>
        have HE := hd (of_decide_eq_true HV.o)
        have HS2 := hd (by have := HST.o; rw [if_pos HE.o, List.append_nil] at this; exact this)
        go_wp2
        go_roundw
        case rel => exact ⟨k + 1, D, q, d, by go_num, by omega, rfl, by omega, hd (by rw [HS2.o]; exact HQ.o), hd (by rw [HS2.o]; exact HR2.o), HW2⟩
        case measure => simp [intOf]; omega
      | false =>
        have HE := hd (of_decide_eq_false HV.o)
        have HS2 := hd (by have := HST.o; rw [if_neg HE.o] at this; exact this)
        go_wp2_with (at_builtin; refine wpList_append_row rfl _ _ 22 rfl (From w.heap.size) 36 i0 (.agg #[.int .i64 0, .int .i64 0, .string ⟨#[]⟩]) 3 32 Tryz.underlying22 hi hz0 hz1 hz2 rfl D q d (fsE (woL (l.take k) m)) rfl (HR2.o.alloc _) ⟨_, 0, none⟩ 1 1 [.int .i64 fk, .int .i64 fl, .string (bs fv)] rfl rfl (cells_at (Blk.new_ _ _ (by simp) _ _) rfl) (by simp [Value.oneCell']) (by omega) (by unfold maxLen; omega) (by omega) ?_; intro A2 cc2 w3 hown3 hchg3)
        go_roundw
        case rel =>
          refine ⟨k + 1, A2, q + 1, cc2, by go_num, by omega, rfl, by omega, hd ?_, hd ?_, hd ?_⟩
          · rw [HS2.o, List.length_append, ← HQ.o]; rfl
          · rw [HS2.o, fsE_snoc]
            exact hown3.mono (fun q hq => by
              rcases hq with hq | hq
              · exact hq
              · simp at hq; show w.heap.size ≤ q; omega)
          · exact HW2.o.trans (((Chg.refl (From w.heap.size) w2).alloc _).trans hchg3 (fun q hq => .inl hq) |>.below (fun _ h => h) hsz)
        case measure => simp [intOf]; omega
    · have hlti : decide ((k : Int) < (n : Int)) = false := by simp; omega
      have htk : l.take k = l := List.take_of_length_le (by rw [← HN.o]; omega)
      rw [htk] at HQ HO
      go_wp2
      go_ret
      exact ⟨⟨D, q, d, rfl, HQ.o, HO.o, HW.o⟩⟩

set_option maxRecDepth 100000 in
set_option maxHeartbeats 4000000 in
theorem only_calls (w : World) (A : Option Addr) (n c : Nat) (l : List Fld) (kd : Nat) (hn : n = l.length) (hr : Rds w A n 3 (fsE l)) (hb : n ≤ 1000) :
    Calls Tryz.prog 45 #[.slice A n c, .int .i64 kd] w fun e w' => FsR w (onlyL l kd) e w' := by
  obtain ⟨i0, hi, hz0, hz1, hz2⟩ := info_parts fInfo
  have HN := hd hn
  have HR := hd hr
  clear hn hr
  go_enter Tryz.func45, Tryz.ntmps45
  go_wp2_with fail
  go_loopw [10, 7, 5] (fun i _ out wr => ∃ (k : Nat) (D : Option Addr) (q d : Nat), i = .int .i64 k ∧ k ≤ n ∧ out = .slice D q d ∧ q ≤ k ∧ Hd (q = (onlyL (l.take k) kd).length) ∧ Hd (Row wr (From w.heap.size) 36 3 D q d (fsE (onlyL (l.take k) kd))) ∧ Hd (Below w.heap.size w wr)) (fun i _ _ _ => n - (intOf i).toNat)
  case atStart => exact ⟨0, none, 0, 0, rfl, Nat.zero_le _, rfl, Nat.zero_le _, hd rfl, hd (Row.nil _ _ _ _), hd (Below.refl _ _)⟩
  case round =>
    obtain ⟨k, D, q, d, rfl, hk, rfl, hqk, HQ, HO, HW⟩ := hrel
    obtain ⟨wi, rfl⟩ : ∃ wi : World, wi = wr := ⟨_, rfl⟩
    by_cases hlt : k < n
    · have hlti : decide ((k : Int) < (n : Int)) = true := by simp; omega
      have hkl : k < l.length := by rw [← HN.o]; exact hlt
      have HST := hd (only_take l kd k hkl)
      obtain ⟨f, hf⟩ : ∃ f, l[k]'hkl = f := ⟨_, rfl⟩
      rw [hf] at HST
      obtain ⟨g, o, rfl, hg, hc⟩ := (HR.o.below HW.o).at_ (by omega)
      have hcf : ∀ t u, t < 3 → (fEnc f)[t]? = some u → wi.cell? ⟨g, o + k * 3 + t, none⟩ = some u := fun t u ht hv => by
        rw [Nat.add_assoc]
        exact hc _ _ ((fsE_at l k hkl t ht).trans (by rw [hf]; exact hv))
      have c0 := hcf 0 _ (by omega) rfl
      have c1 := hcf 1 _ (by omega) rfl
      have c2 := hcf 2 _ (by omega) rfl
      rw [Nat.add_zero] at c0
      clear hcf hc hf
      obtain ⟨fk, fl, fv⟩ := f
      have HRB := hd (HO.o.alloc (.cells #[.int .i64 fk, .int .i64 fl, .string (bs fv)] 36))
      have HWB := hd (HW.o.alloc HW.o.size (.cells #[.int .i64 fk, .int .i64 fl, .string (bs fv)] 36))
      have hsz := HW.o.size
      by_cases hfk : fk = (kd : Int)
      · have HS2 := hd (by have := HST.o; rw [if_pos hfk] at this; exact this)
        have hfe : (fk == (kd : Int)) = true := by simpa using hfk
        clear hfk
        go_wp2_with (at_builtin; refine wpList_append_row rfl _ _ 22 rfl (From w.heap.size) 36 i0 (.agg #[.int .i64 0, .int .i64 0, .string ⟨#[]⟩]) 3 32 Tryz.underlying22 hi hz0 hz1 hz2 rfl D q d (fsE (onlyL (l.take k) kd)) rfl (HRB.o.alloc _) ⟨_, 0, none⟩ 1 1 [.int .i64 fk, .int .i64 fl, .string (bs fv)] rfl rfl (cells_at (Blk.new_ _ _ (by simp) _ _) rfl) (by simp [Value.oneCell']) (by omega) (by unfold maxLen; omega) (by omega) ?_; intro A2 cc2 w3 hown3 hchg3)
        go_roundw
        case rel =>
          refine ⟨k + 1, A2, q + 1, cc2, by go_num, by omega, rfl, by omega, hd ?_, hd ?_, hd ?_⟩
          · rw [HS2.o, List.length_append, ← HQ.o]; rfl
          · rw [HS2.o, fsE_snoc]
            exact hown3.mono (fun q hq => by
              rcases hq with hq | hq
              · exact hq
              · simp at hq; show w.heap.size ≤ q; omega)
          · exact HW.o.trans ((((Chg.refl (From w.heap.size) wi).alloc _).alloc _).trans hchg3 (fun q hq => .inl hq) |>.below (fun _ h => h) hsz)
        case measure => simp [intOf]; omega
      · have HS2 := hd (by have := HST.o; rw [if_neg hfk, List.append_nil] at this; exact this)
        have hfe : (fk == (kd : Int)) = false := by simpa using hfk
        clear hfk
        go_wp2
        go_roundw
        case rel => exact ⟨k + 1, D, q, d, by go_num, by omega, rfl, by omega, hd (by rw [HS2.o]; exact HQ.o), hd (by rw [HS2.o]; exact HRB.o), HWB⟩
        case measure => simp [intOf]; omega
    · have hlti : decide ((k : Int) < (n : Int)) = false := by simp; omega
      have htk : l.take k = l := List.take_of_length_le (by rw [← HN.o]; omega)
      rw [htk] at HQ HO
      go_wp2
      go_ret
      exact ⟨⟨D, q, d, rfl, HQ.o, HO.o, HW.o⟩⟩

end Go.Proofs.YtpejlcaoggedfaaGreatDoor
namespace Go.Proofs.YtpejlcaoggedfaaGreatDoor
open Go.RowKit

set_option maxRecDepth 100000 in
set_option maxHeartbeats 2000000 in
theorem equal_calls (w : World) (A B : Option Addr) (n c m d : Nat) (l r : List Fld) (hn : n = l.length) (hm : m = r.length) (ha : Rds w A n 3 (fsE l)) (hb : Rds w B m 3 (fsE r)) (hs : n ≤ 1000000) (hs2 : m ≤ 1000000) :
    Calls Tryz.prog 48 #[.slice A n c, .slice B m d] w fun e w' => e = .returned (.bool (decide (l = r))) ∧ Below w.heap.size w w' := by
  obtain ⟨v, hv⟩ : ∃ v, decide (l = r) = v := ⟨_, rfl⟩
  rw [hv]
  have HT := hd (show l = r → v = true from fun h => by rw [← hv]; exact decide_eq_true h)
  have HF := hd (show ¬ l = r → v = false from fun h => by rw [← hv]; exact decide_eq_false h)
  have HN := hd hn
  have HM := hd hm
  have HA := hd ha
  have HB := hd hb
  clear hv hn hm ha hb
  by_cases hnm : n = m
  · subst hnm
    go_enter Tryz.func48, Tryz.ntmps48
    go_wp2_with fail
    go_loopw [13, 5, 4] (fun i _ _ wr => ∃ k : Nat, i = .int .i64 k ∧ k ≤ n ∧ Hd (l.take k = r.take k) ∧ Hd (Below w.heap.size w wr)) (fun i _ _ _ => n - (intOf i).toNat)
    case atStart => exact ⟨0, rfl, Nat.zero_le _, hd (by simp), hd (Below.refl _ _)⟩
    case round =>
      obtain ⟨k, rfl, hk, HL, HW⟩ := hrel
      obtain ⟨wi, rfl⟩ : ∃ wi : World, wi = wr := ⟨_, rfl⟩
      by_cases hlt : k < n
      · have hlti : decide ((k : Int) < (n : Int)) = true := by simp; omega
        have hkl : k < l.length := by rw [← HN.o]; exact hlt
        have hkr : k < r.length := by rw [← HM.o]; exact hlt
        obtain ⟨x, hx⟩ : ∃ x, l[k]'hkl = x := ⟨_, rfl⟩
        obtain ⟨y, hy⟩ : ∃ y, r[k]'hkr = y := ⟨_, rfl⟩
        have HXY := hd (And.intro hx hy)
        obtain ⟨g, o, hA, _, hc⟩ := (HA.o.below HW.o).at_ (by omega)
        obtain ⟨g', o', hB, _, hc'⟩ := (HB.o.below HW.o).at_ (by omega)
        subst hA hB
        have hcx : ∀ t u, t < 3 → (fEnc x)[t]? = some u → wi.cell? ⟨g, o + k * 3 + t, none⟩ = some u := fun t u ht hv => by
          rw [Nat.add_assoc]; exact hc _ _ ((fsE_at l k hkl t ht).trans (by rw [hx]; exact hv))
        have hcy : ∀ t u, t < 3 → (fEnc y)[t]? = some u → wi.cell? ⟨g', o' + k * 3 + t, none⟩ = some u := fun t u ht hv => by
          rw [Nat.add_assoc]; exact hc' _ _ ((fsE_at r k hkr t ht).trans (by rw [hy]; exact hv))
        have x0 := hcx 0 _ (by omega) rfl
        have x1 := hcx 1 _ (by omega) rfl
        have x2 := hcx 2 _ (by omega) rfl
        have y0 := hcy 0 _ (by omega) rfl
        have y1 := hcy 1 _ (by omega) rfl
        have y2 := hcy 2 _ (by omega) rfl
        simp only [Nat.add_zero] at x0 y0
        clear hc hc' hcx hcy hx hy
        have hcase := fld_cases x y
        by_cases hxy : x = y
        · have HNX := hd (show l.take (k + 1) = r.take (k + 1) by
            rw [List.take_succ_eq_append_getElem hkl, List.take_succ_eq_append_getElem hkr, HL.o, HXY.o.1, HXY.o.2, hxy])
          clear hcase HXY
          subst hxy
          obtain ⟨xk, xl, xv⟩ := x
          go_wp2_with fail
          go_quiet (fail)
          go_wp2
          go_roundw
          case rel => exact ⟨k + 1, by go_num, by omega, HNX, hd (bdrewN HW.o _)⟩
          case measure => simp [intOf]; omega
        · have HV := hd (HF.o (fun h => hxy (by subst h; rw [← HXY.o.1, ← HXY.o.2])))
          have HNE := hd hxy
          clear hxy
          rcases hcase with he | he | ⟨he1, he2⟩ | ⟨he1, he2, he3⟩
          · exact absurd he HNE.o
          · obtain ⟨xk, xl, xv⟩ := x
            obtain ⟨yk, yl, yv⟩ := y
            simp only at he
            clear HXY HNE
            go_wp2_with fail
            go_quiet (fail)
            go_wp2
            go_ret
            exact ⟨retBB HV.o.symm, bdrewN HW.o _⟩
          · obtain ⟨xk, xl, xv⟩ := x
            obtain ⟨yk, yl, yv⟩ := y
            simp only at he1 he2
            clear HXY HNE
            subst he1
            go_wp2_with fail
            go_quiet (fail)
            go_wp2
            go_ret
            exact ⟨retBB HV.o.symm, bdrewN HW.o _⟩
          · obtain ⟨xk, xl, xv⟩ := x
            obtain ⟨yk, yl, yv⟩ := y
            simp only at he1 he2 he3
            clear HXY HNE
            subst he1 he2
            go_wp2_with fail
            go_quiet (fail)
            go_wp2
            go_ret
            exact ⟨retBB HV.o.symm, bdrewN HW.o _⟩
      · have hlti : decide ((k : Int) < (n : Int)) = false := by simp; omega
        have HV := hd (HT.o (by
          have := HL.o
          rwa [List.take_of_length_le (by rw [← HN.o]; omega), List.take_of_length_le (by rw [← HM.o]; omega)] at this))
        go_wp2
        go_ret
        exact ⟨retBB HV.o.symm, HW.o⟩
  · have n1 : ((n : Int) != (m : Int)) = true := by simp; omega
    have HV := hd (HF.o (fun h => hnm (by rw [HN.o, HM.o, h])))
    clear hnm
    go_enter Tryz.func48, Tryz.ntmps48
    go_wp2
    go_ret
    exact ⟨retBB HV.o.symm, Below.refl _ _⟩

end Go.Proofs.YtpejlcaoggedfaaGreatDoor
namespace Go.Proofs.YtpejlcaoggedfaaGreatDoor
open Go.RowKit

/-- append of at least one element onto what is read: no room, so a new row. -/
theorem run_append_new {P : Program} (w : World) (t ty e : TypeId) (i : TypeInfo) (z : Value) (size bytes : Nat) (ht : P.underlying t = some (.slice e)) (hi : P.info? e = some i) (hz : i.zero = some z)
    (hsize : i.size = size) (hby : i.bytes = bytes) (hzs : z.cells.size = size) (A : Option Addr) (n cap : Nat) (xs : List Value) (hxl : xs.length = n * size) (hA : A = none → n = 0 ∧ cap = 0)
    (holds : ∀ b, A = some b → ∀ j u, xs[j]? = some u → w.cell? (b.add j) = some u)
    (a : Addr) (m c : Nat) (news : List Value) (hl : news.length = m * size) (hnews : ∀ j u, news[j]? = some u → w.cell? (a.add j) = some u)
    (h0 : 0 < m) (hg : cap < n + m) (h63 : n + m ≤ maxLen) (hbytes : (n + m) * bytes ≤ 140737488355328) :
    ∃ A' c' w', (Builtin.append_ #[t, t] ty #[.slice A n cap, .slice (some a) m c]).run P w = .ok (.slice A' (n + m) c') w' ∧ Row w' (From w.heap.size) e size A' (n + m) c' (xs ++ news) ∧ Below w.heap.size w w' := by
  subst hsize
  subst hby
  have hsmall : n + m ≤ 9223372036854775807 := by simp only [maxLen] at h63; omega
  have hlen : (xs ++ news).length = (n + m) * i.size := by rw [List.length_append, hxl, hl, Nat.add_mul]
  have grown : ∀ (old : Nat),
      Row (w.drew.alloc (.cells (xs.toArray ++ news.toArray ++ Builtin.zeroCells z.cells (grownCap w (n + m) old e - (n + m))) e)) (From w.heap.size) e i.size (some ⟨w.heap.size, 0, none⟩) (n + m) (grownCap w (n + m) old e) (xs ++ news) ∧
      Below w.heap.size w (w.drew.alloc (.cells (xs.toArray ++ news.toArray ++ Builtin.zeroCells z.cells (grownCap w (n + m) old e - (n + m))) e)) := by
    intro old
    have hge := grownCap_ge w (n + m) old e
    have hcm : grownCap w (n + m) old e ≤ maxLen := grownCap_le_maxLen w (n + m) old e h63
    refine ⟨Row.of_block (Blk.new w.drew e _) (Nat.le_refl _) hge hcm ?_ ?_ hlen, (Chg.below ((Chg.refl Non w).drew.alloc _) (fun _ h => h.elim) (Nat.le_refl _))⟩
    · simp only [Array.size_append, List.size_toArray, size_zeroCells, hzs, hxl, hl, ← Nat.add_mul]
      congr 1
      omega
    · simp only [Array.toList_append, List.append_assoc]
      rw [← List.append_assoc, ← hlen]
      exact List.take_left
  cases A with
  | none =>
    obtain ⟨rfl, rfl⟩ := hA rfl
    obtain rfl : xs = [] := List.eq_nil_of_length_eq_zero (by simpa using hxl)
    have hrun := run_append_nil (P := P) (w := w) t ty e i z ht hi hz a m c news hl hnews h0 (by omega) (by have hb := hbytes; simp only [Nat.zero_add] at hb; omega)
    have hgr := grown 0
    simp only [Nat.zero_add, List.nil_append, Array.empty_append] at hgr ⊢
    exact ⟨_, _, _, hrun, hgr.1, hgr.2⟩
  | some ad =>
    have hrun := run_append_grow (P := P) (w := w) t ty e i z ht hi hz ad n cap xs hxl (holds _ rfl) a m c news hl hnews (by omega) (by omega) (growslice_fits (by omega) hbytes)
    have hgr := grown cap
    exact ⟨_, _, _, hrun, hgr.1, hgr.2⟩

theorem wpList_append_new {P : Program} {w : World} {Q : Exit → Act → World → Prop} {a : Act} {ops : Array Oper} {rest : List Oper} {o : Oper} (hgd : o.guard = none) (s x : Operand) (t : TypeId)
    (ho : o.op = .call { callee := .builtin .append, args := #[s, x], argTypes := #[t, t] })
    (e : TypeId) (i : TypeInfo) (z : Value) (size bytes : Nat) (ht : P.underlying t = some (.slice e)) (hi : P.info? e = some i) (hz : i.zero = some z)
    (hsize : i.size = size) (hby : i.bytes = bytes) (hzs : z.cells.size = size) (A : Option Addr) (n cap : Nat) (xs : List Value) (hs : a.eval s = .slice A n cap) (hxl : xs.length = n * size) (hA : A = none → n = 0 ∧ cap = 0)
    (holds : ∀ b, A = some b → ∀ j u, xs[j]? = some u → w.cell? (b.add j) = some u)
    (ad : Addr) (m c : Nat) (news : List Value) (hx : a.eval x = .slice (some ad) m c) (hl : news.length = m * size) (hnews : ∀ j u, news[j]? = some u → w.cell? (ad.add j) = some u)
    (h0 : 0 < m) (hg : cap < n + m) (h63 : n + m ≤ maxLen) (hbytes : (n + m) * bytes ≤ 140737488355328)
    (h : ∀ A' c' w', Row w' (From w.heap.size) e size A' (n + m) c' (xs ++ news) → Below w.heap.size w w' → wpList P ops Q rest (a.put o.dst (.slice A' (n + m) c')) w') : wpList P ops Q (o :: rest) a w :=
  wpList_plain hgd fun K hK => by
    obtain ⟨A', c', w', hrun, h2, h3⟩ := run_append_new (P := P) w t o.type e i z size bytes ht hi hz hsize hby hzs A n cap xs hxl hA holds ad m c news hl hnews h0 hg h63 hbytes
    unfold Oper.wp execOp
    simp only [ho, resolve, invoke, builtin, Sem.run_bind, Sem.run_pure, Result.andThen_ok, List.map_toArray, List.map_cons, List.map_nil, hs, hx, hrun]
    exact hK _ _ (h A' c' w' h2 h3)
theorem wpList_append_nothing {P : Program} {w : World} {Q : Exit → Act → World → Prop} {a : Act} {ops : Array Oper} {rest : List Oper} {o : Oper} (hgd : o.guard = none) (s x : Operand) (t : TypeId)
    (ho : o.op = .call { callee := .builtin .append, args := #[s, x], argTypes := #[t, t] })
    (e : TypeId) (i : TypeInfo) (ht : P.underlying t = some (.slice e)) (hi : P.info? e = some i) (A : Option Addr) (n cap : Nat) (hle : n ≤ cap) (hs : a.eval s = .slice A n cap)
    (B : Option Addr) (c : Nat) (hx : a.eval x = .slice B 0 c)
    (h : wpList P ops Q rest (a.put o.dst (.slice A n cap)) w) : wpList P ops Q (o :: rest) a w :=
  wpList_plain hgd fun K hK => by
    have hsrc : Src P i.size t (.slice B 0 c) 0 [] w := by
      cases B with
      | none => exact Src.ofNil w ht c
      | some b => exact Src.ofSlice w ht b 0 c [] (by simp) (by simp) (by simp)
    have hrun := run_append_nothing (P := P) w t t o.type e i ht hi A n cap hle (.slice B 0 c) hsrc
    unfold Oper.wp execOp
    simp only [ho, resolve, invoke, builtin, Sem.run_bind, Sem.run_pure, Result.andThen_ok, List.map_toArray, List.map_cons, List.map_nil, hs, hx, hrun]
    exact hK _ _ h

theorem step_append_new {P : Program} {ops : Array Oper} {o : Oper} {a : Act} {w : World} {K : Act → World → Prop} {Q : Exit → Act → World → Prop} {E : Prop}
    (hg : o.guard = none) (s x : Operand) (t : TypeId) (hop : o.op = Op.call { callee := Callee.builtin Builtin.append, args := #[s, x], argTypes := #[t, t] })
    (e : TypeId) (i : TypeInfo) (z : Value) (size bytes : Nat) (ht : P.underlying t = some (.slice e)) (hi : P.info? e = some i) (hz : i.zero = some z)
    (hsize : i.size = size) (hby : i.bytes = bytes) (hzs : z.cells.size = size) (A : Option Addr) (n cap : Nat) (xs : List Value) (hs : a.eval s = .slice A n cap) (hxl : xs.length = n * size) (hA : A = none → n = 0 ∧ cap = 0)
    (ad : Addr) (m c : Nat) (news : List Value) (hx : a.eval x = .slice (some ad) m c) (hl : news.length = m * size)
    (h0 : 0 < m) (hg2 : cap < n + m) (h63 : n + m ≤ maxLen) (hbytes : (n + m) * bytes ≤ 140737488355328)
    (holds : ∀ b, A = some b → ∀ j u, xs[j]? = some u → w.cell? (b.add j) = some u) (hnews : ∀ j u, news[j]? = some u → w.cell? (ad.add j) = some u)
    (h : ∀ A' c' w', Row w' (From w.heap.size) e size A' (n + m) c' (xs ++ news) → Below w.heap.size w w' → K (a.put o.dst (.slice A' (n + m) c')) w') :
    if Region.wanted o (yielded ops a.tmps) = true then Oper.wp P o a w K Q else E := by
  have hw : Region.wanted o (yielded ops a.tmps) = true := by simp [Region.wanted, hg]
  rw [if_pos hw]
  obtain ⟨A', c', w', hrun, h2, h3⟩ := run_append_new (P := P) w t o.type e i z size bytes ht hi hz hsize hby hzs A n cap xs hxl hA holds ad m c news hl hnews h0 hg2 h63 hbytes
  unfold Oper.wp execOp
  simp only [hop, resolve, invoke, builtin, Sem.run_bind, Sem.run_pure, Result.andThen_ok, List.map_toArray, List.map_cons, List.map_nil, hs, hx, hrun]
  exact h A' c' w' h2 h3
theorem step_append_nothing {P : Program} {ops : Array Oper} {o : Oper} {a : Act} {w : World} {K : Act → World → Prop} {Q : Exit → Act → World → Prop} {E : Prop}
    (hg : o.guard = none) (s x : Operand) (t : TypeId) (hop : o.op = Op.call { callee := Callee.builtin Builtin.append, args := #[s, x], argTypes := #[t, t] })
    (e : TypeId) (i : TypeInfo) (ht : P.underlying t = some (.slice e)) (hi : P.info? e = some i) (A : Option Addr) (n cap : Nat) (hle : n ≤ cap) (hs : a.eval s = .slice A n cap)
    (B : Option Addr) (c : Nat) (hx : a.eval x = .slice B 0 c) (h : K (a.put o.dst (.slice A n cap)) w) :
    if Region.wanted o (yielded ops a.tmps) = true then Oper.wp P o a w K Q else E := by
  have hw : Region.wanted o (yielded ops a.tmps) = true := by simp [Region.wanted, hg]
  rw [if_pos hw]
  have hsrc : Src P i.size t (.slice B 0 c) 0 [] w := by
    cases B with
    | none => exact Src.ofNil w ht c
    | some b => exact Src.ofSlice w ht b 0 c [] (by simp) (by simp) (by simp)
  have hrun := run_append_nothing (P := P) w t t o.type e i ht hi A n cap hle (.slice B 0 c) hsrc
  unfold Oper.wp execOp
  simp only [hop, resolve, invoke, builtin, Sem.run_bind, Sem.run_pure, Result.andThen_ok, List.map_toArray, List.map_cons, List.map_nil, hs, hx, hrun]
  exact h
/-- A row, or a slice with no room at all. -/
def RowO (w : World) (S : Nat → Prop) (e : TypeId) (size : Nat) (A : Option Addr) (n c : Nat) (xs : List Value) : Prop := Row w S e size A n c xs ∨ (n = 0 ∧ c = 0 ∧ xs = [])
theorem RowO.alloc {w : World} {S : Nat → Prop} {e : TypeId} {size n c : Nat} {A : Option Addr} {xs : List Value} (h : RowO w S e size A n c xs) (o : Obj) : RowO (w.alloc o) S e size A n c xs := h.imp (fun h => h.alloc o) id
theorem RowO.drew {w : World} {S : Nat → Prop} {e : TypeId} {size n c : Nat} {A : Option Addr} {xs : List Value} (h : RowO w S e size A n c xs) : RowO w.drew S e size A n c xs := h.imp (fun h => h.drew) id
theorem RowO.drewN {w : World} {S : Nat → Prop} {e : TypeId} {size n c : Nat} {A : Option Addr} {xs : List Value} (h : RowO w S e size A n c xs) (k : Nat) : RowO (w.drewN k) S e size A n c xs := h.imp (fun h => h.drewN k) id
theorem run_append_or {P : Program} (w : World) (S : Nat → Prop) (t ty e : TypeId) (i : TypeInfo) (z : Value) (size bytes : Nat) (ht : P.underlying t = some (.slice e)) (hi : P.info? e = some i) (hz : i.zero = some z)
    (hsize : i.size = size) (hby : i.bytes = bytes) (hzs : z.cells.size = size) (A : Option Addr) (n cap : Nat) (xs : List Value) (hr : RowO w S e size A n cap xs)
    (a : Addr) (m c : Nat) (news : List Value) (hl : news.length = m * size) (hnews : ∀ j u, news[j]? = some u → w.cell? (a.add j) = some u) (h1 : ∀ u ∈ news, u.oneCell' = true)
    (h0 : 0 < m) (h63 : n + m ≤ maxLen) (hbytes : (n + m) * bytes ≤ 140737488355328) :
    ∃ A' c' w', (Builtin.append_ #[t, t] ty #[.slice A n cap, .slice (some a) m c]).run P w = .ok (.slice A' (n + m) c') w' ∧ Row w' (Plus S w.heap.size) e size A' (n + m) c' (xs ++ news) ∧ Chg S w w' := by
  rcases hr with hr | ⟨rfl, rfl, rfl⟩
  · exact run_append_row w S t ty e i z size bytes ht hi hz hsize hby hzs A n cap xs hr a m c news hl hnews h1 h0 h63 hbytes
  · obtain ⟨A', c', w', h2, h3, h4⟩ := run_append_new (P := P) w t ty e i z size bytes ht hi hz hsize hby hzs A 0 0 [] (by simp) (fun _ => ⟨rfl, rfl⟩) (fun b hb j u hu => by simp at hu) a m c news hl hnews h0 (by omega) h63 hbytes
    exact ⟨A', c', w', h2, h3.mono (fun q hq => .inr hq), Chg.of_below S h4⟩
theorem step_append_or {P : Program} {ops : Array Oper} {o : Oper} {a : Act} {w : World} {K : Act → World → Prop} {Q : Exit → Act → World → Prop} {E : Prop}
    (hg : o.guard = none) (s x : Operand) (t : TypeId) (hop : o.op = Op.call { callee := Callee.builtin Builtin.append, args := #[s, x], argTypes := #[t, t] })
    (S : Nat → Prop) (e : TypeId) (i : TypeInfo) (z : Value) (size bytes : Nat) (ht : P.underlying t = some (.slice e)) (hi : P.info? e = some i) (hz : i.zero = some z)
    (hsize : i.size = size) (hby : i.bytes = bytes) (hzs : z.cells.size = size) (A : Option Addr) (n cap : Nat) (xs : List Value) (hs : a.eval s = .slice A n cap)
    (ad : Addr) (m c : Nat) (news : List Value) (hx : a.eval x = .slice (some ad) m c) (hl : news.length = m * size) (h1 : ∀ u ∈ news, u.oneCell' = true)
    (h0 : 0 < m) (h63 : n + m ≤ maxLen) (hbytes : (n + m) * bytes ≤ 140737488355328)
    (hr : RowO w S e size A n cap xs) (hnews : ∀ j u, news[j]? = some u → w.cell? (ad.add j) = some u)
    (h : ∀ A' c' w', Row w' (Plus S w.heap.size) e size A' (n + m) c' (xs ++ news) → Chg S w w' → K (a.put o.dst (.slice A' (n + m) c')) w') :
    if Region.wanted o (yielded ops a.tmps) = true then Oper.wp P o a w K Q else E := by
  have hw : Region.wanted o (yielded ops a.tmps) = true := by simp [Region.wanted, hg]
  rw [if_pos hw]
  obtain ⟨A', c', w', hrun, h2, h3⟩ := run_append_or (P := P) w S t o.type e i z size bytes ht hi hz hsize hby hzs A n cap xs hr ad m c news hl hnews h1 h0 h63 hbytes
  unfold Oper.wp execOp
  simp only [hop, resolve, invoke, builtin, Sem.run_bind, Sem.run_pure, Result.andThen_ok, List.map_toArray, List.map_cons, List.map_nil, hs, hx, hrun]
  exact h A' c' w' h2 h3

end Go.Proofs.YtpejlcaoggedfaaGreatDoor
namespace Go.Proofs.YtpejlcaoggedfaaGreatDoor
open Go.RowKit

theorem run_append_none0 {P : Program} (w : World) (t ty e : TypeId) (i : TypeInfo) (ht : P.underlying t = some (.slice e)) (hi : P.info? e = some i) (A : Option Addr) (n cap : Nat) (hle : n ≤ cap) (B : Option Addr) (c : Nat) :
    (Builtin.append_ #[t, t] ty #[.slice A n cap, .slice B 0 c]).run P w = .ok (.slice A n cap) w := by
  have hs : Src P i.size t (.slice B 0 c) 0 [] w := by
    cases B with
    | none => exact Src.ofNil w ht c
    | some b => exact Src.ofSlice w ht b 0 c [] (by simp) (by simp) (by simp)
  exact run_append_nothing (P := P) w t t ty e i ht hi A n cap hle (.slice B 0 c) hs
theorem news_nil {size : Nat} {news : List Value} {w : World} {B : Option Addr} (h : Rds w B 0 size news) : news = [] := List.eq_nil_of_length_eq_zero (by have := h.len; simpa using this)
/-- Onto an owned row. -/
theorem run_append_rowG {P : Program} (w : World) (S : Nat → Prop) (t ty e : TypeId) (i : TypeInfo) (z : Value) (size bytes : Nat) (ht : P.underlying t = some (.slice e)) (hi : P.info? e = some i) (hz : i.zero = some z)
    (hsize : i.size = size) (hby : i.bytes = bytes) (hzs : z.cells.size = size) (A : Option Addr) (n cap : Nat) (xs : List Value) (hr : Row w S e size A n cap xs)
    (B : Option Addr) (m c : Nat) (news : List Value) (hsrc : Rds w B m size news) (h1 : ∀ u ∈ news, u.oneCell' = true)
    (h63 : n + m ≤ maxLen) (hbytes : (n + m) * bytes ≤ 140737488355328) :
    ∃ A' c' w', (Builtin.append_ #[t, t] ty #[.slice A n cap, .slice B m c]).run P w = .ok (.slice A' (n + m) c') w' ∧ Row w' (Plus S w.heap.size) e size A' (n + m) c' (xs ++ news) ∧ Chg S w w' := by
  by_cases h0 : 0 < m
  · obtain ⟨g, o, rfl, hg, hc⟩ := hsrc.at_ h0
    exact run_append_row w S t ty e i z size bytes ht hi hz hsize hby hzs A n cap xs hr ⟨g, o, none⟩ m c news hsrc.len (fun j u hu => by rw [Addr.add_lit]; exact hc j u hu) h1 h0 h63 hbytes
  · obtain rfl : m = 0 := by omega
    obtain rfl := news_nil hsrc
    exact ⟨A, cap, w, run_append_none0 w t ty e i ht hi A n cap hr.cap.1 B c, by simpa using hr.mono (fun q hq => .inl hq), Chg.refl _ _⟩
theorem wpList_append_rowG {P : Program} {w : World} {Q : Exit → Act → World → Prop} {a : Act} {ops : Array Oper} {rest : List Oper} {o : Oper} (hgd : o.guard = none) (s x : Operand) (t : TypeId)
    (ho : o.op = .call { callee := .builtin .append, args := #[s, x], argTypes := #[t, t] })
    (S : Nat → Prop) (e : TypeId) (i : TypeInfo) (z : Value) (size bytes : Nat) (ht : P.underlying t = some (.slice e)) (hi : P.info? e = some i) (hz : i.zero = some z)
    (hsize : i.size = size) (hby : i.bytes = bytes) (hzs : z.cells.size = size) (A : Option Addr) (n cap : Nat) (xs : List Value) (hs : a.eval s = .slice A n cap) (hr : Row w S e size A n cap xs)
    (B : Option Addr) (m c : Nat) (news : List Value) (hx : a.eval x = .slice B m c) (hsrc : Rds w B m size news) (h1 : ∀ u ∈ news, u.oneCell' = true)
    (h63 : n + m ≤ maxLen) (hbytes : (n + m) * bytes ≤ 140737488355328)
    (h : ∀ A' c' w', Row w' (Plus S w.heap.size) e size A' (n + m) c' (xs ++ news) → Chg S w w' → wpList P ops Q rest (a.put o.dst (.slice A' (n + m) c')) w') : wpList P ops Q (o :: rest) a w :=
  wpList_plain hgd fun K hK => by
    obtain ⟨A', c', w', hrun, h2, h3⟩ := run_append_rowG (P := P) w S t o.type e i z size bytes ht hi hz hsize hby hzs A n cap xs hr B m c news hsrc h1 h63 hbytes
    unfold Oper.wp execOp
    simp only [ho, resolve, invoke, builtin, Sem.run_bind, Sem.run_pure, Result.andThen_ok, List.map_toArray, List.map_cons, List.map_nil, hs, hx, hrun]
    exact hK _ _ (h A' c' w' h2 h3)
/-- Onto a row or a slice with no room. -/
theorem run_append_orG {P : Program} (w : World) (S : Nat → Prop) (t ty e : TypeId) (i : TypeInfo) (z : Value) (size bytes : Nat) (ht : P.underlying t = some (.slice e)) (hi : P.info? e = some i) (hz : i.zero = some z)
    (hsize : i.size = size) (hby : i.bytes = bytes) (hzs : z.cells.size = size) (A : Option Addr) (n cap : Nat) (xs : List Value) (hr : RowO w S e size A n cap xs)
    (B : Option Addr) (m c : Nat) (news : List Value) (hsrc : Rds w B m size news) (h1 : ∀ u ∈ news, u.oneCell' = true)
    (h63 : n + m ≤ maxLen) (hbytes : (n + m) * bytes ≤ 140737488355328) :
    ∃ A' c' w', (Builtin.append_ #[t, t] ty #[.slice A n cap, .slice B m c]).run P w = .ok (.slice A' (n + m) c') w' ∧ RowO w' (Plus S w.heap.size) e size A' (n + m) c' (xs ++ news) ∧ Chg S w w' := by
  rcases hr with hr | ⟨rfl, rfl, rfl⟩
  · obtain ⟨A', c', w', k1, k2, k3⟩ := run_append_rowG (P := P) w S t ty e i z size bytes ht hi hz hsize hby hzs A n cap xs hr B m c news hsrc h1 h63 hbytes
    exact ⟨A', c', w', k1, .inl k2, k3⟩
  · by_cases h0 : 0 < m
    · obtain ⟨g, o, rfl, hg, hc⟩ := hsrc.at_ h0
      obtain ⟨A', c', w', h2, h3, h4⟩ := run_append_new (P := P) w t ty e i z size bytes ht hi hz hsize hby hzs A 0 0 [] (by simp) (fun _ => ⟨rfl, rfl⟩) (fun b hb j u hu => by simp at hu) ⟨g, o, none⟩ m c news hsrc.len (fun j u hu => by rw [Addr.add_lit]; exact hc j u hu) h0 (by omega) h63 hbytes
      exact ⟨A', c', w', h2, .inl (h3.mono (fun q hq => .inr hq)), Chg.of_below S h4⟩
    · obtain rfl : m = 0 := by omega
      obtain rfl := news_nil hsrc
      exact ⟨A, 0, w, run_append_none0 w t ty e i ht hi A 0 0 (Nat.le_refl _) B c, .inr ⟨rfl, rfl, rfl⟩, Chg.refl _ _⟩
theorem wpList_append_orG {P : Program} {w : World} {Q : Exit → Act → World → Prop} {a : Act} {ops : Array Oper} {rest : List Oper} {o : Oper} (hgd : o.guard = none) (s x : Operand) (t : TypeId)
    (ho : o.op = .call { callee := .builtin .append, args := #[s, x], argTypes := #[t, t] })
    (S : Nat → Prop) (e : TypeId) (i : TypeInfo) (z : Value) (size bytes : Nat) (ht : P.underlying t = some (.slice e)) (hi : P.info? e = some i) (hz : i.zero = some z)
    (hsize : i.size = size) (hby : i.bytes = bytes) (hzs : z.cells.size = size) (A : Option Addr) (n cap : Nat) (xs : List Value) (hs : a.eval s = .slice A n cap) (hr : RowO w S e size A n cap xs)
    (B : Option Addr) (m c : Nat) (news : List Value) (hx : a.eval x = .slice B m c) (hsrc : Rds w B m size news) (h1 : ∀ u ∈ news, u.oneCell' = true)
    (h63 : n + m ≤ maxLen) (hbytes : (n + m) * bytes ≤ 140737488355328)
    (h : ∀ A' c' w', RowO w' (Plus S w.heap.size) e size A' (n + m) c' (xs ++ news) → Chg S w w' → wpList P ops Q rest (a.put o.dst (.slice A' (n + m) c')) w') : wpList P ops Q (o :: rest) a w :=
  wpList_plain hgd fun K hK => by
    obtain ⟨A', c', w', hrun, h2, h3⟩ := run_append_orG (P := P) w S t o.type e i z size bytes ht hi hz hsize hby hzs A n cap xs hr B m c news hsrc h1 h63 hbytes
    unfold Oper.wp execOp
    simp only [ho, resolve, invoke, builtin, Sem.run_bind, Sem.run_pure, Result.andThen_ok, List.map_toArray, List.map_cons, List.map_nil, hs, hx, hrun]
    exact hK _ _ (h A' c' w' h2 h3)

end Go.Proofs.YtpejlcaoggedfaaGreatDoor
