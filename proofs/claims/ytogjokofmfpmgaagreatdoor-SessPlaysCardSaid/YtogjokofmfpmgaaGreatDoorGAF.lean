/-
  Fields, plain: what is a field as it should be, its line, the field of a line.
-/
import Derived.Test.YtogjokofmfpmgaaGreatDoorGAD
import Derived.Test.YtogjokofmfpmgaaGreatDoorGAE
import Derived.Test.YtogjokofmfpmgaaGreatDoorProg
import Derived.Test.YtogjokofmfpmgaaGreatDoorGAC
set_option linter.unusedVariables false
set_option linter.unusedSimpArgs false
namespace Go.Proofs.YtogjokofmfpmgaaGreatDoor
open Go.RowKit

def okKL (k l : Int) : Prop := 1 ≤ k ∧ k ≤ 6 ∧ (l = 0 ∨ ((l = 1 ∨ l = 2) ∧ (k = 3 ∨ k = 4)) ∨ (l = 3 ∧ k = 3))
instance (k l : Int) : Decidable (okKL k l) := by unfold okKL; infer_instance
def DayT (l : List UInt8) : Prop := ∃ y m d, mayB y m d = true ∧ showL y m d = l
noncomputable def valT (k : Int) (v : List UInt8) : List UInt8 := if k = 3 then telT v else if k = 4 then canT v else cleanT v
open Classical in
noncomputable def valE (k : Int) (v : List UInt8) : Int := if k = 3 then telE v else if k = 4 then canE v else if cleanE v = 0 ∧ k = 5 ∧ ¬ DayT (cleanT v) then 1 else cleanE v
noncomputable def fldE (f : Fld) : Int := if okKL f.k f.l then valE f.k f.v else 1
noncomputable def fldC (f : Fld) : Fld := if fldE f = 0 then ⟨f.k, f.l, valT f.k f.v⟩ else noFld
def MayF (f : Fld) : Prop := fldE f = 0 ∧ valT f.k f.v = f.v
open Classical in
noncomputable def mayF (f : Fld) : Bool := decide (MayF f)
theorem mayF_t {f : Fld} (h : MayF f) : mayF f = true := by simp [mayF, h]
theorem mayF_f {f : Fld} (h : ¬ MayF f) : mayF f = false := by simp [mayF, h]
def kindL (k : Int) : List UInt8 := if k = 1 then [110, 97, 109, 101] else if k = 2 then [111, 114, 103] else if k = 3 then [116, 101, 108] else if k = 4 then [109, 97, 105, 108] else if k = 5 then [100, 97, 121] else if k = 6 then [110, 111, 116, 101] else []
def labL (l : Int) : List UInt8 := if l = 1 then [59, 104, 111, 109, 101] else if l = 2 then [59, 119, 111, 114, 107] else if l = 3 then [59, 99, 101, 108, 108] else []
def headL (k l : Int) : List UInt8 := kindL k ++ labL l
def rawL (f : Fld) : List UInt8 := headL f.k f.l ++ 58 :: f.v
open Classical in
noncomputable def lineF (f : Fld) : List UInt8 := if MayF f then rawL f else []
theorem line_yes {f : Fld} (h : MayF f) : lineF f = rawL f := by simp [lineF, h]
theorem line_no {f : Fld} (h : ¬ MayF f) : lineF f = [] := by simp [lineF, h]

/-- The kinds and labels that go together. -/
def prs : List (Int × Int) := [(1, 0), (2, 0), (3, 0), (3, 1), (3, 2), (3, 3), (4, 0), (4, 1), (4, 2), (5, 0), (6, 0)]
theorem ok_prs {k l : Int} (h : okKL k l) : (k, l) ∈ prs := by
  obtain ⟨h1, h2, h3⟩ := h
  have hk : k = 1 ∨ k = 2 ∨ k = 3 ∨ k = 4 ∨ k = 5 ∨ k = 6 := by omega
  rcases h3 with rfl | ⟨h3, h4⟩ | ⟨rfl, rfl⟩
  · rcases hk with rfl | rfl | rfl | rfl | rfl | rfl <;> decide
  · rcases h3 with rfl | rfl <;> rcases h4 with rfl | rfl <;> decide
  · decide
theorem head_inj' : ∀ p ∈ prs, ∀ q ∈ prs, headL p.1 p.2 = headL q.1 q.2 → p = q := by decide
theorem head_58' : ∀ p ∈ prs, (58 : UInt8) ∉ headL p.1 p.2 := by decide
theorem head_10' : ∀ p ∈ prs, (10 : UInt8) ∉ headL p.1 p.2 := by decide
theorem head_len' : ∀ p ∈ prs, (headL p.1 p.2).length ≤ 9 := by decide
theorem head_inj {k l k' l' : Int} (h : okKL k l) (h' : okKL k' l') (e : headL k l = headL k' l') : k = k' ∧ l = l' := by
  have := head_inj' _ (ok_prs h) _ (ok_prs h') e
  simpa using this
theorem head_58 {k l : Int} (h : okKL k l) : (58 : UInt8) ∉ headL k l := head_58' _ (ok_prs h)
theorem head_10 {k l : Int} (h : okKL k l) : (10 : UInt8) ∉ headL k l := head_10' _ (ok_prs h)
theorem head_len {k l : Int} (h : okKL k l) : (headL k l).length ≤ 9 := head_len' _ (ok_prs h)

theorem fldE_ok {f : Fld} (h : fldE f = 0) : okKL f.k f.l ∧ valE f.k f.v = 0 := by
  unfold fldE at h
  split at h
  · next c => exact ⟨c, h⟩
  · omega
theorem may_ok {f : Fld} (h : MayF f) : okKL f.k f.l := (fldE_ok h.1).1

theorem can_twice {l : List UInt8} (h : canE l = 0) : canE (canT l) = 0 ∧ canT (canT l) = canT l :=
  ⟨(can_addr (can_ok h)).2, (can_addr (can_ok h)).1⟩
theorem tel_twice {l : List UInt8} (h : telE l = 0) : telE (telT l) = 0 ∧ telT (telT l) = telT l :=
  ⟨(tel_self (tel_ok h)).2, (tel_self (tel_ok h)).1⟩
theorem val_twice {k : Int} {v : List UInt8} (h : valE k v = 0) : valE k (valT k v) = 0 ∧ valT k (valT k v) = valT k v := by
  unfold valE valT at *
  by_cases k3 : k = 3
  · simp only [if_pos k3] at *; exact tel_twice h
  · by_cases k4 : k = 4
    · simp only [if_neg k3, if_pos k4] at *; exact can_twice h
    · simp only [if_neg k3, if_neg k4] at *
      by_cases c : cleanE v = 0 ∧ k = 5 ∧ ¬ DayT (cleanT v)
      · rw [if_pos c] at h; omega
      · rw [if_neg c] at h
        obtain ⟨e1, e2⟩ := clean_twice h
        rw [e1, e2]
        refine ⟨?_, rfl⟩
        rw [if_neg]
        rintro ⟨_, c2, c3⟩
        refine c ⟨h, c2, ?_⟩
        rw [if_neg k3, if_neg k4, e1] at c3
        exact c3
theorem val_len (k : Int) (v : List UInt8) (h : valE k v = 0) : (valT k v).length ≤ 64 := by
  unfold valE at h
  unfold valT
  by_cases k3 : k = 3
  · rw [if_pos k3] at *; have := (tel_len (tel_ok h)).2; omega
  · by_cases k4 : k = 4
    · rw [if_neg k3, if_pos k4] at *; exact (can_ok h).1
    · rw [if_neg k3, if_neg k4] at *; exact cleanT_len v
theorem val_sign {k : Int} {v : List UInt8} (h : valE k v = 0) : ∀ c ∈ valT k v, 32 ≤ c.toNat := by
  unfold valE at h
  unfold valT
  by_cases k3 : k = 3
  · rw [if_pos k3] at *; intro c hc; have := tel_sign (tel_ok h) c hc; omega
  · by_cases k4 : k = 4
    · rw [if_neg k3, if_pos k4] at *; intro c hc; have := addr_plain (can_ok h) c hc; omega
    · rw [if_neg k3, if_neg k4] at *
      split at h
      · omega
      · exact clean_ok0 h
theorem fldC_may {f : Fld} (h : fldE f = 0) : MayF (fldC f) := by
  obtain ⟨h1, h2⟩ := fldE_ok h
  obtain ⟨e1, e2⟩ := val_twice h2
  have e : fldC f = ⟨f.k, f.l, valT f.k f.v⟩ := by rw [fldC, if_pos h]
  rw [e]
  refine ⟨?_, e2⟩
  unfold fldE
  rw [if_pos h1]
  exact e1
theorem may_fldC {f : Fld} (h : MayF f) : fldC f = f := by
  rw [fldC, if_pos h.1]
  exact fld_ext rfl rfl h.2
theorem may_len {f : Fld} (h : MayF f) : f.v.length ≤ 64 := by
  rw [← h.2]; exact val_len _ _ (fldE_ok h.1).2
theorem may_sign {f : Fld} (h : MayF f) : ∀ c ∈ f.v, 32 ≤ c.toNat := by
  have := val_sign (fldE_ok h.1).2
  rwa [h.2] at this
theorem raw_len {f : Fld} (h : MayF f) : (rawL f).length ≤ 74 := by
  have h1 := head_len (may_ok h)
  have h2 := may_len h
  unfold rawL
  rw [List.length_append, List.length_cons]
  omega
theorem raw_10 {f : Fld} (h : MayF f) : (10 : UInt8) ∉ rawL f := by
  intro hm
  unfold rawL at hm
  rcases List.mem_append.1 hm with hm | hm
  · exact head_10 (may_ok h) hm
  · rcases List.mem_cons.1 hm with hm | hm
    · exact absurd hm (by decide)
    · have := may_sign h _ hm; simp at this
theorem line_len (f : Fld) : (lineF f).length ≤ 74 := by
  by_cases h : MayF f
  · rw [line_yes h]; exact raw_len h
  · rw [line_no h]; simp

/-- The field of a line. -/
def Found (s : List UInt8) (f : Fld) : Prop := MayF f ∧ rawL f = s
theorem found_uniq {s : List UInt8} {f g : Fld} (hf : Found s f) (hg : Found s g) : f = g := by
  have e := hf.2.trans hg.2.symm
  unfold rawL at e
  have a1 := bef_app 58 (headL f.k f.l) f.v (head_58 (may_ok hf.1))
  have a2 := bef_app 58 (headL g.k g.l) g.v (head_58 (may_ok hg.1))
  rw [e] at a1
  obtain ⟨e1, e2⟩ := head_inj (may_ok hf.1) (may_ok hg.1) (a1.1.symm.trans a2.1)
  exact fld_ext e1 e2 (a1.2.symm.trans a2.2)
theorem found_cut {s : List UInt8} {f : Fld} (h : Found s f) : (58 : UInt8) ∈ s ∧ bef 58 s = headL f.k f.l ∧ aft 58 s = f.v := by
  obtain ⟨h1, h2⟩ := h
  have a1 := bef_app 58 (headL f.k f.l) f.v (head_58 (may_ok h1))
  unfold rawL at h2
  rw [h2] at a1
  exact ⟨by rw [← h2]; simp, a1⟩
open Classical in
noncomputable def parF (s : List UInt8) : Fld := if h : ∃ f, Found s f then h.choose else noFld
open Classical in
noncomputable def parE (s : List UInt8) : Int := if ∃ f, Found s f then 0 else 1
theorem par_yes {s : List UInt8} {f : Fld} (h : Found s f) : parF s = f ∧ parE s = 0 := by
  have hx : ∃ f, Found s f := ⟨f, h⟩
  refine ⟨?_, by simp only [parE, if_pos hx]⟩
  rw [parF, dif_pos hx]
  exact found_uniq hx.choose_spec h
theorem par_no {s : List UInt8} (h : ∀ f, ¬ Found s f) : parF s = noFld ∧ parE s = 1 := by
  have hx : ¬ ∃ f, Found s f := fun ⟨f, hf⟩ => h f hf
  exact ⟨by rw [parF, dif_neg hx], by simp only [parE, if_neg hx]⟩
theorem par_or (s : List UInt8) : (∃ f, Found s f ∧ parF s = f ∧ parE s = 0) ∨ ((∀ f, ¬ Found s f) ∧ parF s = noFld ∧ parE s = 1) := by
  by_cases h : ∃ f, Found s f
  · obtain ⟨f, hf⟩ := h; exact .inl ⟨f, hf, par_yes hf⟩
  · have : ∀ f, ¬ Found s f := fun f hf => h ⟨f, hf⟩
    exact .inr ⟨this, par_no this⟩
theorem found_line {s : List UInt8} {f : Fld} (h : Found s f) : lineF f = s := (line_yes h.1).trans h.2
end Go.Proofs.YtogjokofmfpmgaaGreatDoor
namespace Go.Proofs.YtogjokofmfpmgaaGreatDoor
open Go.RowKit

theorem retSB {a b : ByteArray} {x y : Bool} (h : a = b) (k : x = y) : Ending.returned (.tuple #[.string a, .bool x]) = .returned (.tuple #[.string b, .bool y]) := by rw [h, k]
theorem retS {a b : ByteArray} (h : a = b) : Ending.returned (.string a) = .returned (.string b) := by rw [h]
def okL (k l : Int) : Prop := l = 0 ∨ ((l = 1 ∨ l = 2) ∧ (k = 3 ∨ k = 4)) ∨ (l = 3 ∧ k = 3)
instance (k l : Int) : Decidable (okL k l) := by unfold okL; infer_instance
theorem okKL_iff (k l : Int) : okKL k l ↔ (1 ≤ k ∧ k ≤ 6) ∧ okL k l := by unfold okKL okL; constructor <;> (intro h; omega)
def labV (k l : Int) : List UInt8 := if okL k l then labL l else []
theorem kindL_ne (k : Int) : kindL k = [] ↔ ¬ (1 ≤ k ∧ k ≤ 6) := by
  unfold kindL
  repeat' split
  all_goals (simp; try omega)

theorem kind_calls (k : Int) (w : World) : Calls Tryz.prog 114 #[.int .i64 k] w fun e w' => e = .returned (.string (bs (kindL k))) ∧ w = w' := by
  by_cases hh : k = 1 ∨ k = 2 ∨ k = 3 ∨ k = 4 ∨ k = 5 ∨ k = 6
  · rcases hh with rfl | rfl | rfl | rfl | rfl | rfl
    all_goals
      (go_enter Tryz.func114, Tryz.ntmps114
       go_wp2
       go_ret
       exact ⟨rfl, rfl⟩)
  · have n1 : (k == 1) = false := by simp; omega
    have n2 : (k == 2) = false := by simp; omega
    have n3 : (k == 3) = false := by simp; omega
    have n4 : (k == 4) = false := by simp; omega
    have n5 : (k == 5) = false := by simp; omega
    have n6 : (k == 6) = false := by simp; omega
    have HX := hd ((kindL_ne k).2 (by omega))
    clear hh
    go_enter Tryz.func114, Tryz.ntmps114
    go_wp2
    go_ret
    exact ⟨by rw [HX.o]; rfl, rfl⟩

set_option maxHeartbeats 1000000 in
theorem label_calls (k l : Int) (w : World) : Calls Tryz.prog 113 #[.int .i64 k, .int .i64 l] w fun e w' => e = .returned (.tuple #[.string (bs (labV k l)), .bool (decide (okL k l))]) ∧ w = w' := by
  by_cases hl : l = 0 ∨ l = 1 ∨ l = 2 ∨ l = 3
  · by_cases hk : k = 3 ∨ k = 4
    · rcases hl with rfl | rfl | rfl | rfl <;> rcases hk with rfl | rfl
      all_goals
        (go_enter Tryz.func113, Tryz.ntmps113
         go_wp2
         go_ret2
         exact ⟨retSB (by decide) (by decide), rfl⟩)
    · have n3 : (k == 3) = false := by simp; omega
      have n4 : (k == 4) = false := by simp; omega
      rcases hl with rfl | rfl | rfl | rfl
      · have e1 : okL k 0 := .inl rfl
        have HX := hd (show labV k 0 = [] ∧ decide (okL k 0) = true from ⟨by rw [labV, if_pos e1]; rfl, by simp [e1]⟩)
        clear hk e1
        go_enter Tryz.func113, Tryz.ntmps113
        go_wp2
        go_ret2
        exact ⟨retSB (by rw [HX.o.1]; rfl) HX.o.2.symm, rfl⟩
      · have e1 : ¬ okL k 1 := fun h => hk (by unfold okL at h; omega)
        have HX := hd (show labV k 1 = [] ∧ decide (okL k 1) = false from ⟨by rw [labV, if_neg e1], by simp [e1]⟩)
        clear hk e1
        go_enter Tryz.func113, Tryz.ntmps113
        go_wp2
        go_ret2
        exact ⟨retSB (by rw [HX.o.1]; rfl) HX.o.2.symm, rfl⟩
      · have e1 : ¬ okL k 2 := fun h => hk (by unfold okL at h; omega)
        have HX := hd (show labV k 2 = [] ∧ decide (okL k 2) = false from ⟨by rw [labV, if_neg e1], by simp [e1]⟩)
        clear hk e1
        go_enter Tryz.func113, Tryz.ntmps113
        go_wp2
        go_ret2
        exact ⟨retSB (by rw [HX.o.1]; rfl) HX.o.2.symm, rfl⟩
      · have e1 : ¬ okL k 3 := fun h => hk (by unfold okL at h; omega)
        have HX := hd (show labV k 3 = [] ∧ decide (okL k 3) = false from ⟨by rw [labV, if_neg e1], by simp [e1]⟩)
        clear hk e1
        go_enter Tryz.func113, Tryz.ntmps113
        go_wp2
        go_ret2
        exact ⟨retSB (by rw [HX.o.1]; rfl) HX.o.2.symm, rfl⟩
  · have e1 : ¬ okL k l := fun h => hl (by unfold okL at h; omega)
    have HX := hd (show labV k l = [] ∧ decide (okL k l) = false from ⟨by rw [labV, if_neg e1], by simp [e1]⟩)
    have n0 : (l == 0) = false := by simp; omega
    have n1 : (l == 1) = false := by simp; omega
    have n2 : (l == 2) = false := by simp; omega
    have n3 : (l == 3) = false := by simp; omega
    clear hl e1
    go_enter Tryz.func113, Tryz.ntmps113
    go_wp2
    go_ret2
    exact ⟨retSB (by rw [HX.o.1]; rfl) HX.o.2.symm, rfl⟩

theorem cutc_calls (c : UInt8) (s : ByteArray) (hs : s.size ≤ 1000000000) (w : World) (ht : Tbl w) : Calls Tryz.prog 104 #[.string s, .string ⟨#[c]⟩] w fun e w' => (e = .returned (if c ∈ s.data.toList then .tuple #[.string (bs (bef c s.data.toList)), .string (bs (aft c s.data.toList)), .bool true] else .tuple #[.string s, .string (bs []), .bool false])) ∧ Below w.heap.size w w' := by
  obtain ⟨m, hm⟩ := ht.2
  refine (Any.strings_Cut { laysM145 with } s ⟨#[c]⟩ m w (by omega) hm).mono ?_
  rintro e w' ⟨rfl, n, rfl⟩
  refine ⟨?_, bdrewN (Below.refl _ _) _⟩
  rw [show (⟨#[c]⟩ : ByteArray).data.toList = [c] from rfl, cut_one]
  by_cases h : c ∈ s.data.toList
  · rw [if_pos h, if_pos h]; rfl
  · rw [if_neg h, if_neg h]; rfl

end Go.Proofs.YtogjokofmfpmgaaGreatDoor
namespace Go.Proofs.YtogjokofmfpmgaaGreatDoor
open Go.RowKit Go.Lib

theorem less_cmp : ∀ a b : List UInt8, Op.bytesLess a b = decide (compareBytes a b < 0)
  | [], [] => by simp [Op.bytesLess, compareBytes]
  | [], _ :: _ => by simp [Op.bytesLess, compareBytes]
  | _ :: _, [] => by simp [Op.bytesLess, compareBytes]
  | a :: t1, b :: t2 => by
    rw [Op.bytesLess, cmp_cons, less_cmp t1 t2]
    by_cases h1 : a.toNat < b.toNat
    · have h : a < b := (u8_lt a b).2 h1
      simp [h1, h]
    · have h : ¬ a < b := fun h => h1 ((u8_lt a b).1 h)
      by_cases h2 : b.toNat < a.toNat
      · have hne : ¬ a = b := fun e => by rw [e] at h2; omega
        simp [h1, h2, h, hne]
      · have he : a = b := UInt8.toNat_inj.1 (by omega)
        subst he
        simp [h1]
theorem bytesLess_dec (a b : List UInt8) : Op.bytesLess (bs a).toList (bs b).toList = decide (compareBytes a b < 0) := by
  rw [less_cmp, toList_data, toList_data]
  rfl
theorem twoB (w : World) (o1 o2 : Obj) : Below w.heap.size w ((w.alloc o1).alloc o2) := ((Below.refl _ w).alloc (Nat.le_refl _) _).alloc (by simp) _
theorem retBB {a b : Bool} (h : a = b) : Ending.returned (.bool a) = .returned (.bool b) := by rw [h]

end Go.Proofs.YtogjokofmfpmgaaGreatDoor
namespace Go.Proofs.YtogjokofmfpmgaaGreatDoor
open Go.RowKit

theorem two_cell (w W : World) (t : TypeId) (c1 c2 : Array Value)
    (hb : Below ((w.alloc (.cells c1 t)).alloc (.cells c2 t)).heap.size ((w.alloc (.cells c1 t)).alloc (.cells c2 t)) W) :
    Blk W w.heap.size t c1 ∧ Blk W (w.heap.size + 1) t c2 :=
  ⟨((Blk.new w t c1).alloc _).below hb (by simp; omega), (Blk.new_ (w.alloc (.cells c1 t)) (w.heap.size + 1) (by simp) t c2).below hb (by simp)⟩
theorem two_bel (w W : World) (o1 o2 : Obj) (hb : Below ((w.alloc o1).alloc o2).heap.size ((w.alloc o1).alloc o2) W) : Below w.heap.size w W :=
  (((Below.refl _ w).alloc (Nat.le_refl _) _).alloc (by simp) _).trans (hb.mono (by simp; omega))
theorem res_cell {P : Program} {fn : Func} {p u : Tmp} {ty : TypeId} (h : fn.results = #[.cell p ty, .tmp u]) (tmps : Array Value) (w : World) (g : Nat) (t : TypeId) (cs : Array Value) (fr : Nat × Nat) (d : TypeDesc)
    (hp : tmps.getD p undef = .pointer (some ⟨g, 0, none⟩)) (hg : w.heap[g]? = some (.cells cs t fr))
    (hu : P.underlying ty = some d) (hd : (match d with | .struct _ | .array _ _ => true | _ => false) = true) (hi : (P.info? ty).map (·.size) = some cs.size) :
    (results fn tmps).run P w = .ok (.tuple #[.agg cs, tmps.getD u undef]) w := by
  rw [results_cell_tmp h, hp]
  simp [asAddr, run_loadVar_row w g t ty cs fr d hg hu hd hi, Result.andThen]
def fldR (f : Fld) (e : Int) : Value := .tuple #[fldV f, .int .i64 e]
theorem retF {f g : Fld} {a b : Int} (h : f = g) (k : a = b) : Ending.returned (fldR f a) = .returned (fldR g b) := by rw [h, k]
def resF (f : Fld) (e : Int) : Fld := if e = 0 then f else noFld
theorem resF_0 (f : Fld) : resF f 0 = f := if_pos rfl
theorem resF_e (f : Fld) {e : Int} (h : e ≠ 0) : resF f e = noFld := if_neg h

set_option maxRecDepth 100000 in
set_option maxHeartbeats 1000000 in
theorem fcanon_bad1 (k l : Int) (v lab : ByteArray) (w : World) (H1 : Hd (∀ W, Calls Tryz.prog 113 #[.int .i64 k, .int .i64 l] W fun e w' => e = .returned (.tuple #[.string lab, .bool false]) ∧ W = w')) :
    Calls Tryz.prog 123 #[.agg #[.int .i64 k, .int .i64 l, .string v]] w fun e w' => e = .returned (fldR noFld 1) ∧ Below w.heap.size w w' := by
  obtain ⟨X, hX⟩ : ∃ X, X = (w.alloc (.cells #[.int .i64 k, .int .i64 l, .string v] 128)).alloc (.cells #[.int .i64 0, .int .i64 0, .string ⟨#[]⟩] 128) := ⟨_, rfl⟩
  have HC := hd (fun W (hb : Below X.heap.size X W) => two_cell w W 128 #[.int .i64 k, .int .i64 l, .string v] #[.int .i64 0, .int .i64 0, .string ⟨#[]⟩] (by rw [← hX]; exact hb))
  have HW := hd (fun W (hb : Below X.heap.size X W) => two_bel w W (.cells #[.int .i64 k, .int .i64 l, .string v] 128) (.cells #[.int .i64 0, .int .i64 0, .string ⟨#[]⟩] 128) (by rw [← hX]; exact hb))
  have HB0 := hd (Below.refl X.heap.size X)
  have hx := hd hX
  clear hX
  go_enter Tryz.func123, Tryz.ntmps123
  go_wp2_with fail
  rw [← hx.o]
  obtain ⟨k1, k2⟩ := HC.o _ HB0.o
  have a0 := k1.at_ 0 rfl
  have a1 := k1.at_ 1 rfl
  have a2 := k1.at_ 2 rfl
  have f0 := k1.frozen 0
  have f1 := k1.frozen 1
  have f2 := k1.frozen 2
  have b0 := k2.at_ 0 rfl
  have b1 := k2.at_ 1 rfl
  have b2 := k2.at_ 2 rfl
  have g0 := k2.frozen 0
  have g1 := k2.frozen 1
  have g2 := k2.frozen 2
  have hl : w.heap.size < _ := k1.lt
  have hl2 : w.heap.size + 1 < _ := k2.lt
  have K1 := hd k1
  have K2 := hd k2
  clear k1 k2
  go_wp2_with fail
  refine (H1.o _).mono ?_
  rintro e w1 ⟨rfl, rfl⟩
  go_wp2
  (try simp only [Exit.inBlock, Exit.then])
  refine bodyPost_ret (res_cell rfl _ _ _ _ _ _ _ rfl (((K2.o.set_ 0 _).set_ 1 _).set_ 2 _) rfl rfl rfl) rfl ⟨?_, ?_⟩
  · exact retF (f := noFld) (a := 1) rfl rfl
  · exact ((((HW.o _ HB0.o).setCell (Nat.le_succ _) _).setCell (Nat.le_succ _) _).setCell (Nat.le_succ _) _)

set_option maxRecDepth 100000 in
set_option maxHeartbeats 1000000 in
theorem fcanon_bad2 (k l : Int) (v lab kd : ByteArray) (w : World) (H1 : Hd (∀ W, Calls Tryz.prog 113 #[.int .i64 k, .int .i64 l] W fun e w' => e = .returned (.tuple #[.string lab, .bool true]) ∧ W = w')) (H2 : Hd (∀ W, Calls Tryz.prog 114 #[.int .i64 k] W fun e w' => e = .returned (.string kd) ∧ W = w')) (hkd : (kd.toList == []) = true) :
    Calls Tryz.prog 123 #[.agg #[.int .i64 k, .int .i64 l, .string v]] w fun e w' => e = .returned (fldR noFld 1) ∧ Below w.heap.size w w' := by
  obtain ⟨X, hX⟩ : ∃ X, X = (w.alloc (.cells #[.int .i64 k, .int .i64 l, .string v] 128)).alloc (.cells #[.int .i64 0, .int .i64 0, .string ⟨#[]⟩] 128) := ⟨_, rfl⟩
  have HC := hd (fun W (hb : Below X.heap.size X W) => two_cell w W 128 #[.int .i64 k, .int .i64 l, .string v] #[.int .i64 0, .int .i64 0, .string ⟨#[]⟩] (by rw [← hX]; exact hb))
  have HW := hd (fun W (hb : Below X.heap.size X W) => two_bel w W (.cells #[.int .i64 k, .int .i64 l, .string v] 128) (.cells #[.int .i64 0, .int .i64 0, .string ⟨#[]⟩] 128) (by rw [← hX]; exact hb))
  have HB0 := hd (Below.refl X.heap.size X)
  have hx := hd hX
  clear hX
  go_enter Tryz.func123, Tryz.ntmps123
  go_wp2_with fail
  rw [← hx.o]
  obtain ⟨k1, k2⟩ := HC.o _ HB0.o
  have a0 := k1.at_ 0 rfl
  have a1 := k1.at_ 1 rfl
  have a2 := k1.at_ 2 rfl
  have f0 := k1.frozen 0
  have f1 := k1.frozen 1
  have f2 := k1.frozen 2
  have b0 := k2.at_ 0 rfl
  have b1 := k2.at_ 1 rfl
  have b2 := k2.at_ 2 rfl
  have g0 := k2.frozen 0
  have g1 := k2.frozen 1
  have g2 := k2.frozen 2
  have hl : w.heap.size < _ := k1.lt
  have hl2 : w.heap.size + 1 < _ := k2.lt
  have K1 := hd k1
  have K2 := hd k2
  clear k1 k2
  go_wp2_with fail
  refine (H1.o _).mono ?_
  rintro e w1 ⟨rfl, rfl⟩
  go_wp2_with fail
  refine (H2.o _).mono ?_
  rintro e w1 ⟨rfl, rfl⟩
  go_wp2
  (try simp only [Exit.inBlock, Exit.then])
  refine bodyPost_ret (res_cell rfl _ _ _ _ _ _ _ rfl (((K2.o.set_ 0 _).set_ 1 _).set_ 2 _) rfl rfl rfl) rfl ⟨?_, ?_⟩
  · exact retF (f := noFld) (a := 1) rfl rfl
  · exact ((((HW.o _ HB0.o).setCell (Nat.le_succ _) _).setCell (Nat.le_succ _) _).setCell (Nat.le_succ _) _)

set_option maxRecDepth 100000 in
set_option maxHeartbeats 2000000 in
theorem fcanon_3 (l : Int) (v : ByteArray) (lab kd : ByteArray) (T : List UInt8) (E : Int) (R : Int) (HR : Hd (R = E)) (w : World)
    (H1 : Hd (∀ W, Calls Tryz.prog 113 #[.int .i64 3, .int .i64 l] W fun e w' => e = .returned (.tuple #[.string lab, .bool true]) ∧ W = w'))
    (H2 : Hd (∀ W, Calls Tryz.prog 114 #[.int .i64 3] W fun e w' => e = .returned (.string kd) ∧ W = w')) (hkd : (kd.toList == []) = false)
    (H3 : Hd (∀ W, Below w.heap.size w W → Calls Tryz.prog 140 #[.string v] W fun e w' => e = .returned (.tuple #[.string (bs T), .int .i64 E]) ∧ Below W.heap.size W w')) :
    Calls Tryz.prog 123 #[.agg #[.int .i64 3, .int .i64 l, .string v]] w fun e w' => e = .returned (fldR (resF ⟨3, l, T⟩ R) R) ∧ Below w.heap.size w w' := by
  obtain ⟨X, hX⟩ : ∃ X, X = (w.alloc (.cells #[.int .i64 3, .int .i64 l, .string v] 128)).alloc (.cells #[.int .i64 0, .int .i64 0, .string ⟨#[]⟩] 128) := ⟨_, rfl⟩
  have HC := hd (fun W (hb : Below X.heap.size X W) => two_cell w W 128 #[.int .i64 3, .int .i64 l, .string v] #[.int .i64 0, .int .i64 0, .string ⟨#[]⟩] (by rw [← hX]; exact hb))
  have HW := hd (fun W (hb : Below X.heap.size X W) => two_bel w W (.cells #[.int .i64 3, .int .i64 l, .string v] 128) (.cells #[.int .i64 0, .int .i64 0, .string ⟨#[]⟩] 128) (by rw [← hX]; exact hb))
  have HB0 := hd (Below.refl X.heap.size X)
  have hx := hd hX
  clear hX
  by_cases hE : E = 0
  · subst hE
    go_enter Tryz.func123, Tryz.ntmps123
    go_wp2_with fail
    rw [← hx.o]
    obtain ⟨k1, k2⟩ := HC.o _ HB0.o
    have a0 := k1.at_ 0 rfl
    have a1 := k1.at_ 1 rfl
    have a2 := k1.at_ 2 rfl
    have f0 := k1.frozen 0
    have f1 := k1.frozen 1
    have f2 := k1.frozen 2
    have b0 := k2.at_ 0 rfl
    have b1 := k2.at_ 1 rfl
    have b2 := k2.at_ 2 rfl
    have g0 := k2.frozen 0
    have g1 := k2.frozen 1
    have g2 := k2.frozen 2
    have hl : w.heap.size < _ := k1.lt
    have hl2 : w.heap.size + 1 < _ := k2.lt
    have K1 := hd k1
    have K2 := hd k2
    clear k1 k2
    go_wp2_with fail
    refine (H1.o _).mono ?_
    rintro e w1 ⟨rfl, rfl⟩
    go_wp2_with fail
    refine (H2.o _).mono ?_
    rintro e w1 ⟨rfl, rfl⟩
    go_wp2_with fail
    refine (H3.o _ (HW.o _ HB0.o)).mono ?_
    rintro e w2 ⟨rfl, hb2⟩
    have HB2 := hd hb2
    clear hb2
    clear a0 a1 a2 f0 f1 f2 b0 b1 b2 g0 g1 g2 hl hl2 K1 K2
    obtain ⟨k1, k2⟩ := HC.o _ HB2.o
    have a0 := k1.at_ 0 rfl
    have a1 := k1.at_ 1 rfl
    have a2 := k1.at_ 2 rfl
    have f0 := k1.frozen 0
    have f1 := k1.frozen 1
    have f2 := k1.frozen 2
    have b0 := k2.at_ 0 rfl
    have b1 := k2.at_ 1 rfl
    have b2 := k2.at_ 2 rfl
    have g0 := k2.frozen 0
    have g1 := k2.frozen 1
    have g2 := k2.frozen 2
    have hl : w.heap.size < _ := k1.lt
    have hl2 : w.heap.size + 1 < _ := k2.lt
    have K1 := hd k1
    have K2 := hd k2
    clear k1 k2
    go_wp2
    (try simp only [Exit.inBlock, Exit.then])
    refine bodyPost_ret (res_cell rfl _ _ _ _ _ _ _ rfl ((((K2.o.far (by show w.heap.size + 1 ≠ w.heap.size; omega) _).set_ 0 _).set_ 1 _).set_ 2 _) rfl rfl rfl) rfl ⟨?_, ?_⟩
    · exact retF (f := ⟨3, l, T⟩) (a := 0) (by rw [HR.o, resF_0]) (by rw [HR.o])
    · exact (((((HW.o _ HB2.o).setCell (Nat.le_refl _) _).setCell (Nat.le_succ _) _).setCell (Nat.le_succ _) _).setCell (Nat.le_succ _) _)
  · have nE : (E != 0) = true := by simpa using hE
    have eE : (E == 0) = false := by simpa using hE
    have HE := hd hE
    clear hE
    go_enter Tryz.func123, Tryz.ntmps123
    go_wp2_with fail
    rw [← hx.o]
    obtain ⟨k1, k2⟩ := HC.o _ HB0.o
    have a0 := k1.at_ 0 rfl
    have a1 := k1.at_ 1 rfl
    have a2 := k1.at_ 2 rfl
    have f0 := k1.frozen 0
    have f1 := k1.frozen 1
    have f2 := k1.frozen 2
    have b0 := k2.at_ 0 rfl
    have b1 := k2.at_ 1 rfl
    have b2 := k2.at_ 2 rfl
    have g0 := k2.frozen 0
    have g1 := k2.frozen 1
    have g2 := k2.frozen 2
    have hl : w.heap.size < _ := k1.lt
    have hl2 : w.heap.size + 1 < _ := k2.lt
    have K1 := hd k1
    have K2 := hd k2
    clear k1 k2
    go_wp2_with fail
    refine (H1.o _).mono ?_
    rintro e w1 ⟨rfl, rfl⟩
    go_wp2_with fail
    refine (H2.o _).mono ?_
    rintro e w1 ⟨rfl, rfl⟩
    go_wp2_with fail
    refine (H3.o _ (HW.o _ HB0.o)).mono ?_
    rintro e w2 ⟨rfl, hb2⟩
    have HB2 := hd hb2
    clear hb2
    clear a0 a1 a2 f0 f1 f2 b0 b1 b2 g0 g1 g2 hl hl2 K1 K2
    obtain ⟨k1, k2⟩ := HC.o _ HB2.o
    have a0 := k1.at_ 0 rfl
    have a1 := k1.at_ 1 rfl
    have a2 := k1.at_ 2 rfl
    have f0 := k1.frozen 0
    have f1 := k1.frozen 1
    have f2 := k1.frozen 2
    have b0 := k2.at_ 0 rfl
    have b1 := k2.at_ 1 rfl
    have b2 := k2.at_ 2 rfl
    have g0 := k2.frozen 0
    have g1 := k2.frozen 1
    have g2 := k2.frozen 2
    have hl : w.heap.size < _ := k1.lt
    have hl2 : w.heap.size + 1 < _ := k2.lt
    have K1 := hd k1
    have K2 := hd k2
    clear k1 k2
    go_wp2
    (try simp only [Exit.inBlock, Exit.then])
    refine bodyPost_ret (res_cell rfl _ _ _ _ _ _ _ rfl (((K2.o.set_ 0 _).set_ 1 _).set_ 2 _) rfl rfl rfl) rfl ⟨?_, ?_⟩
    · exact retF (f := noFld) (a := E) (by rw [HR.o, resF_e _ HE.o]) (by rw [HR.o])
    · exact ((((HW.o _ HB2.o).setCell (Nat.le_succ _) _).setCell (Nat.le_succ _) _).setCell (Nat.le_succ _) _)

set_option maxRecDepth 100000 in
set_option maxHeartbeats 2000000 in
theorem fcanon_4 (l : Int) (v : ByteArray) (lab kd : ByteArray) (T : List UInt8) (E : Int) (R : Int) (HR : Hd (R = E)) (w : World)
    (H1 : Hd (∀ W, Calls Tryz.prog 113 #[.int .i64 4, .int .i64 l] W fun e w' => e = .returned (.tuple #[.string lab, .bool true]) ∧ W = w'))
    (H2 : Hd (∀ W, Calls Tryz.prog 114 #[.int .i64 4] W fun e w' => e = .returned (.string kd) ∧ W = w')) (hkd : (kd.toList == []) = false)
    (H3 : Hd (∀ W, Below w.heap.size w W → Calls Tryz.prog 141 #[.string v] W fun e w' => e = .returned (.tuple #[.string (bs T), .int .i64 E]) ∧ Below W.heap.size W w')) :
    Calls Tryz.prog 123 #[.agg #[.int .i64 4, .int .i64 l, .string v]] w fun e w' => e = .returned (fldR (resF ⟨4, l, T⟩ R) R) ∧ Below w.heap.size w w' := by
  obtain ⟨X, hX⟩ : ∃ X, X = (w.alloc (.cells #[.int .i64 4, .int .i64 l, .string v] 128)).alloc (.cells #[.int .i64 0, .int .i64 0, .string ⟨#[]⟩] 128) := ⟨_, rfl⟩
  have HC := hd (fun W (hb : Below X.heap.size X W) => two_cell w W 128 #[.int .i64 4, .int .i64 l, .string v] #[.int .i64 0, .int .i64 0, .string ⟨#[]⟩] (by rw [← hX]; exact hb))
  have HW := hd (fun W (hb : Below X.heap.size X W) => two_bel w W (.cells #[.int .i64 4, .int .i64 l, .string v] 128) (.cells #[.int .i64 0, .int .i64 0, .string ⟨#[]⟩] 128) (by rw [← hX]; exact hb))
  have HB0 := hd (Below.refl X.heap.size X)
  have hx := hd hX
  clear hX
  by_cases hE : E = 0
  · subst hE
    go_enter Tryz.func123, Tryz.ntmps123
    go_wp2_with fail
    rw [← hx.o]
    obtain ⟨k1, k2⟩ := HC.o _ HB0.o
    have a0 := k1.at_ 0 rfl
    have a1 := k1.at_ 1 rfl
    have a2 := k1.at_ 2 rfl
    have f0 := k1.frozen 0
    have f1 := k1.frozen 1
    have f2 := k1.frozen 2
    have b0 := k2.at_ 0 rfl
    have b1 := k2.at_ 1 rfl
    have b2 := k2.at_ 2 rfl
    have g0 := k2.frozen 0
    have g1 := k2.frozen 1
    have g2 := k2.frozen 2
    have hl : w.heap.size < _ := k1.lt
    have hl2 : w.heap.size + 1 < _ := k2.lt
    have K1 := hd k1
    have K2 := hd k2
    clear k1 k2
    go_wp2_with fail
    refine (H1.o _).mono ?_
    rintro e w1 ⟨rfl, rfl⟩
    go_wp2_with fail
    refine (H2.o _).mono ?_
    rintro e w1 ⟨rfl, rfl⟩
    go_wp2_with fail
    refine (H3.o _ (HW.o _ HB0.o)).mono ?_
    rintro e w2 ⟨rfl, hb2⟩
    have HB2 := hd hb2
    clear hb2
    clear a0 a1 a2 f0 f1 f2 b0 b1 b2 g0 g1 g2 hl hl2 K1 K2
    obtain ⟨k1, k2⟩ := HC.o _ HB2.o
    have a0 := k1.at_ 0 rfl
    have a1 := k1.at_ 1 rfl
    have a2 := k1.at_ 2 rfl
    have f0 := k1.frozen 0
    have f1 := k1.frozen 1
    have f2 := k1.frozen 2
    have b0 := k2.at_ 0 rfl
    have b1 := k2.at_ 1 rfl
    have b2 := k2.at_ 2 rfl
    have g0 := k2.frozen 0
    have g1 := k2.frozen 1
    have g2 := k2.frozen 2
    have hl : w.heap.size < _ := k1.lt
    have hl2 : w.heap.size + 1 < _ := k2.lt
    have K1 := hd k1
    have K2 := hd k2
    clear k1 k2
    go_wp2
    (try simp only [Exit.inBlock, Exit.then])
    refine bodyPost_ret (res_cell rfl _ _ _ _ _ _ _ rfl ((((K2.o.far (by show w.heap.size + 1 ≠ w.heap.size; omega) _).set_ 0 _).set_ 1 _).set_ 2 _) rfl rfl rfl) rfl ⟨?_, ?_⟩
    · exact retF (f := ⟨4, l, T⟩) (a := 0) (by rw [HR.o, resF_0]) (by rw [HR.o])
    · exact (((((HW.o _ HB2.o).setCell (Nat.le_refl _) _).setCell (Nat.le_succ _) _).setCell (Nat.le_succ _) _).setCell (Nat.le_succ _) _)
  · have nE : (E != 0) = true := by simpa using hE
    have eE : (E == 0) = false := by simpa using hE
    have HE := hd hE
    clear hE
    go_enter Tryz.func123, Tryz.ntmps123
    go_wp2_with fail
    rw [← hx.o]
    obtain ⟨k1, k2⟩ := HC.o _ HB0.o
    have a0 := k1.at_ 0 rfl
    have a1 := k1.at_ 1 rfl
    have a2 := k1.at_ 2 rfl
    have f0 := k1.frozen 0
    have f1 := k1.frozen 1
    have f2 := k1.frozen 2
    have b0 := k2.at_ 0 rfl
    have b1 := k2.at_ 1 rfl
    have b2 := k2.at_ 2 rfl
    have g0 := k2.frozen 0
    have g1 := k2.frozen 1
    have g2 := k2.frozen 2
    have hl : w.heap.size < _ := k1.lt
    have hl2 : w.heap.size + 1 < _ := k2.lt
    have K1 := hd k1
    have K2 := hd k2
    clear k1 k2
    go_wp2_with fail
    refine (H1.o _).mono ?_
    rintro e w1 ⟨rfl, rfl⟩
    go_wp2_with fail
    refine (H2.o _).mono ?_
    rintro e w1 ⟨rfl, rfl⟩
    go_wp2_with fail
    refine (H3.o _ (HW.o _ HB0.o)).mono ?_
    rintro e w2 ⟨rfl, hb2⟩
    have HB2 := hd hb2
    clear hb2
    clear a0 a1 a2 f0 f1 f2 b0 b1 b2 g0 g1 g2 hl hl2 K1 K2
    obtain ⟨k1, k2⟩ := HC.o _ HB2.o
    have a0 := k1.at_ 0 rfl
    have a1 := k1.at_ 1 rfl
    have a2 := k1.at_ 2 rfl
    have f0 := k1.frozen 0
    have f1 := k1.frozen 1
    have f2 := k1.frozen 2
    have b0 := k2.at_ 0 rfl
    have b1 := k2.at_ 1 rfl
    have b2 := k2.at_ 2 rfl
    have g0 := k2.frozen 0
    have g1 := k2.frozen 1
    have g2 := k2.frozen 2
    have hl : w.heap.size < _ := k1.lt
    have hl2 : w.heap.size + 1 < _ := k2.lt
    have K1 := hd k1
    have K2 := hd k2
    clear k1 k2
    go_wp2
    (try simp only [Exit.inBlock, Exit.then])
    refine bodyPost_ret (res_cell rfl _ _ _ _ _ _ _ rfl (((K2.o.set_ 0 _).set_ 1 _).set_ 2 _) rfl rfl rfl) rfl ⟨?_, ?_⟩
    · exact retF (f := noFld) (a := E) (by rw [HR.o, resF_e _ HE.o]) (by rw [HR.o])
    · exact ((((HW.o _ HB2.o).setCell (Nat.le_succ _) _).setCell (Nat.le_succ _) _).setCell (Nat.le_succ _) _)

set_option maxRecDepth 100000 in
set_option maxHeartbeats 2000000 in
theorem fcanon_o (k : Int) (h1 : 1 ≤ k) (h6 : k ≤ 6) (h3 : k ≠ 3) (h4 : k ≠ 4) (v : ByteArray) (lab kd : ByteArray) (T : List UInt8) (E : Int) (y m d D : Int) (R : Int) (HR : Hd (R = if E = 0 ∧ k = 5 then D else E)) (w : World)
    (H1 : Hd (∀ W, Calls Tryz.prog 113 #[.int .i64 k, .int .i64 0] W fun e w' => e = .returned (.tuple #[.string lab, .bool true]) ∧ W = w'))
    (H2 : Hd (∀ W, Calls Tryz.prog 114 #[.int .i64 k] W fun e w' => e = .returned (.string kd) ∧ W = w')) (hkd : (kd.toList == []) = false)
    (H3 : Hd (∀ W, Below w.heap.size w W → Calls Tryz.prog 142 #[.string v] W fun e w' => e = .returned (.tuple #[.string (bs T), .int .i64 E]) ∧ Below W.heap.size W w'))
    (H4 : Hd (∀ W, Below w.heap.size w W → Calls Tryz.prog 143 #[.string (bs T)] W fun e w' => e = .returned (.tuple #[.agg #[.int .i64 y, .int .i64 m, .int .i64 d], .int .i64 D]) ∧ Below W.heap.size W w')) :
    Calls Tryz.prog 123 #[.agg #[.int .i64 k, .int .i64 0, .string v]] w fun e w' => e = .returned (fldR (resF ⟨k, 0, T⟩ R) R) ∧ Below w.heap.size w w' := by
  obtain ⟨X, hX⟩ : ∃ X, X = (w.alloc (.cells #[.int .i64 k, .int .i64 0, .string v] 128)).alloc (.cells #[.int .i64 0, .int .i64 0, .string ⟨#[]⟩] 128) := ⟨_, rfl⟩
  have HC := hd (fun W (hb : Below X.heap.size X W) => two_cell w W 128 #[.int .i64 k, .int .i64 0, .string v] #[.int .i64 0, .int .i64 0, .string ⟨#[]⟩] (by rw [← hX]; exact hb))
  have HW := hd (fun W (hb : Below X.heap.size X W) => two_bel w W (.cells #[.int .i64 k, .int .i64 0, .string v] 128) (.cells #[.int .i64 0, .int .i64 0, .string ⟨#[]⟩] 128) (by rw [← hX]; exact hb))
  have HB0 := hd (Below.refl X.heap.size X)
  have hx := hd hX
  clear hX
  have n3 : (k == 3) = false := by simpa using h3
  have n4 : (k == 4) = false := by simpa using h4
  have m3 : (k != 3) = true := by simpa using h3
  have m4 : (k != 4) = true := by simpa using h4
  clear h3 h4
  by_cases hE : E = 0
  · subst hE
    by_cases h5 : k = 5
    · subst h5
      rw [if_pos ⟨rfl, rfl⟩] at HR
      by_cases hD : D = 0
      · subst hD
        go_enter Tryz.func123, Tryz.ntmps123
        go_wp2_with fail
        rw [← hx.o]
        obtain ⟨k1, k2⟩ := HC.o _ HB0.o
        have a0 := k1.at_ 0 rfl
        have a1 := k1.at_ 1 rfl
        have a2 := k1.at_ 2 rfl
        have f0 := k1.frozen 0
        have f1 := k1.frozen 1
        have f2 := k1.frozen 2
        have b0 := k2.at_ 0 rfl
        have b1 := k2.at_ 1 rfl
        have b2 := k2.at_ 2 rfl
        have g0 := k2.frozen 0
        have g1 := k2.frozen 1
        have g2 := k2.frozen 2
        have hl : w.heap.size < _ := k1.lt
        have hl2 : w.heap.size + 1 < _ := k2.lt
        have K1 := hd k1
        have K2 := hd k2
        clear k1 k2
        go_wp2_with fail
        refine (H1.o _).mono ?_
        rintro e w1 ⟨rfl, rfl⟩
        go_wp2_with fail
        refine (H2.o _).mono ?_
        rintro e w1 ⟨rfl, rfl⟩
        go_wp2_with fail
        refine (H3.o _ (HW.o _ HB0.o)).mono ?_
        rintro e w2 ⟨rfl, hb2⟩
        have HB2 := hd hb2
        clear hb2
        clear a0 a1 a2 f0 f1 f2 b0 b1 b2 g0 g1 g2 hl hl2 K1 K2
        obtain ⟨k1, k2⟩ := HC.o _ HB2.o
        have a0 := k1.at_ 0 rfl
        have a1 := k1.at_ 1 rfl
        have a2 := k1.at_ 2 rfl
        have f0 := k1.frozen 0
        have f1 := k1.frozen 1
        have f2 := k1.frozen 2
        have b0 := k2.at_ 0 rfl
        have b1 := k2.at_ 1 rfl
        have b2 := k2.at_ 2 rfl
        have g0 := k2.frozen 0
        have g1 := k2.frozen 1
        have g2 := k2.frozen 2
        have hl : w.heap.size < _ := k1.lt
        have hl2 : w.heap.size + 1 < _ := k2.lt
        have K1 := hd k1
        have K2 := hd k2
        clear k1 k2
        go_wp2_with fail
        refine (H4.o _ (HW.o _ HB2.o)).mono ?_
        rintro e w3 ⟨rfl, hb3⟩
        have HB3 := hd (HB2.o.trans (hb3.mono HB2.o.size))
        clear hb3
        clear a0 a1 a2 f0 f1 f2 b0 b1 b2 g0 g1 g2 hl hl2 K1 K2
        obtain ⟨k1, k2⟩ := HC.o _ HB3.o
        have a0 := k1.at_ 0 rfl
        have a1 := k1.at_ 1 rfl
        have a2 := k1.at_ 2 rfl
        have f0 := k1.frozen 0
        have f1 := k1.frozen 1
        have f2 := k1.frozen 2
        have b0 := k2.at_ 0 rfl
        have b1 := k2.at_ 1 rfl
        have b2 := k2.at_ 2 rfl
        have g0 := k2.frozen 0
        have g1 := k2.frozen 1
        have g2 := k2.frozen 2
        have hl : w.heap.size < _ := k1.lt
        have hl2 : w.heap.size + 1 < _ := k2.lt
        have K1 := hd k1
        have K2 := hd k2
        clear k1 k2
        go_wp2
        (try simp only [Exit.inBlock, Exit.then])
        refine bodyPost_ret (res_cell rfl _ _ _ _ _ _ _ rfl ((((K2.o.far (by show w.heap.size + 1 ≠ w.heap.size; omega) _).set_ 0 _).set_ 1 _).set_ 2 _) rfl rfl rfl) rfl ⟨?_, ?_⟩
        · exact retF (f := ⟨5, 0, T⟩) (a := 0) (by rw [HR.o, resF_0]) (by rw [HR.o])
        · exact (((((HW.o _ HB3.o).setCell (Nat.le_refl _) _).setCell (Nat.le_succ _) _).setCell (Nat.le_succ _) _).setCell (Nat.le_succ _) _)
      · have nE : (D != 0) = true := by simpa using hD
        have eE : (D == 0) = false := by simpa using hD
        have HE := hd hD
        clear hD
        go_enter Tryz.func123, Tryz.ntmps123
        go_wp2_with fail
        rw [← hx.o]
        obtain ⟨k1, k2⟩ := HC.o _ HB0.o
        have a0 := k1.at_ 0 rfl
        have a1 := k1.at_ 1 rfl
        have a2 := k1.at_ 2 rfl
        have f0 := k1.frozen 0
        have f1 := k1.frozen 1
        have f2 := k1.frozen 2
        have b0 := k2.at_ 0 rfl
        have b1 := k2.at_ 1 rfl
        have b2 := k2.at_ 2 rfl
        have g0 := k2.frozen 0
        have g1 := k2.frozen 1
        have g2 := k2.frozen 2
        have hl : w.heap.size < _ := k1.lt
        have hl2 : w.heap.size + 1 < _ := k2.lt
        have K1 := hd k1
        have K2 := hd k2
        clear k1 k2
        go_wp2_with fail
        refine (H1.o _).mono ?_
        rintro e w1 ⟨rfl, rfl⟩
        go_wp2_with fail
        refine (H2.o _).mono ?_
        rintro e w1 ⟨rfl, rfl⟩
        go_wp2_with fail
        refine (H3.o _ (HW.o _ HB0.o)).mono ?_
        rintro e w2 ⟨rfl, hb2⟩
        have HB2 := hd hb2
        clear hb2
        clear a0 a1 a2 f0 f1 f2 b0 b1 b2 g0 g1 g2 hl hl2 K1 K2
        obtain ⟨k1, k2⟩ := HC.o _ HB2.o
        have a0 := k1.at_ 0 rfl
        have a1 := k1.at_ 1 rfl
        have a2 := k1.at_ 2 rfl
        have f0 := k1.frozen 0
        have f1 := k1.frozen 1
        have f2 := k1.frozen 2
        have b0 := k2.at_ 0 rfl
        have b1 := k2.at_ 1 rfl
        have b2 := k2.at_ 2 rfl
        have g0 := k2.frozen 0
        have g1 := k2.frozen 1
        have g2 := k2.frozen 2
        have hl : w.heap.size < _ := k1.lt
        have hl2 : w.heap.size + 1 < _ := k2.lt
        have K1 := hd k1
        have K2 := hd k2
        clear k1 k2
        go_wp2_with fail
        refine (H4.o _ (HW.o _ HB2.o)).mono ?_
        rintro e w3 ⟨rfl, hb3⟩
        have HB3 := hd (HB2.o.trans (hb3.mono HB2.o.size))
        clear hb3
        clear a0 a1 a2 f0 f1 f2 b0 b1 b2 g0 g1 g2 hl hl2 K1 K2
        obtain ⟨k1, k2⟩ := HC.o _ HB3.o
        have a0 := k1.at_ 0 rfl
        have a1 := k1.at_ 1 rfl
        have a2 := k1.at_ 2 rfl
        have f0 := k1.frozen 0
        have f1 := k1.frozen 1
        have f2 := k1.frozen 2
        have b0 := k2.at_ 0 rfl
        have b1 := k2.at_ 1 rfl
        have b2 := k2.at_ 2 rfl
        have g0 := k2.frozen 0
        have g1 := k2.frozen 1
        have g2 := k2.frozen 2
        have hl : w.heap.size < _ := k1.lt
        have hl2 : w.heap.size + 1 < _ := k2.lt
        have K1 := hd k1
        have K2 := hd k2
        clear k1 k2
        go_wp2
        (try simp only [Exit.inBlock, Exit.then])
        refine bodyPost_ret (res_cell rfl _ _ _ _ _ _ _ rfl (((K2.o.set_ 0 _).set_ 1 _).set_ 2 _) rfl rfl rfl) rfl ⟨?_, ?_⟩
        · exact retF (f := noFld) (a := D) (by rw [HR.o, resF_e _ HE.o]) (by rw [HR.o])
        · exact ((((HW.o _ HB3.o).setCell (Nat.le_succ _) _).setCell (Nat.le_succ _) _).setCell (Nat.le_succ _) _)
    · rw [if_neg (fun h => h5 h.2)] at HR
      have n5 : (k == 5) = false := by simpa using h5
      clear h5 H4
      go_enter Tryz.func123, Tryz.ntmps123
      go_wp2_with fail
      rw [← hx.o]
      obtain ⟨k1, k2⟩ := HC.o _ HB0.o
      have a0 := k1.at_ 0 rfl
      have a1 := k1.at_ 1 rfl
      have a2 := k1.at_ 2 rfl
      have f0 := k1.frozen 0
      have f1 := k1.frozen 1
      have f2 := k1.frozen 2
      have b0 := k2.at_ 0 rfl
      have b1 := k2.at_ 1 rfl
      have b2 := k2.at_ 2 rfl
      have g0 := k2.frozen 0
      have g1 := k2.frozen 1
      have g2 := k2.frozen 2
      have hl : w.heap.size < _ := k1.lt
      have hl2 : w.heap.size + 1 < _ := k2.lt
      have K1 := hd k1
      have K2 := hd k2
      clear k1 k2
      go_wp2_with fail
      refine (H1.o _).mono ?_
      rintro e w1 ⟨rfl, rfl⟩
      go_wp2_with fail
      refine (H2.o _).mono ?_
      rintro e w1 ⟨rfl, rfl⟩
      go_wp2_with fail
      refine (H3.o _ (HW.o _ HB0.o)).mono ?_
      rintro e w2 ⟨rfl, hb2⟩
      have HB2 := hd hb2
      clear hb2
      clear a0 a1 a2 f0 f1 f2 b0 b1 b2 g0 g1 g2 hl hl2 K1 K2
      obtain ⟨k1, k2⟩ := HC.o _ HB2.o
      have a0 := k1.at_ 0 rfl
      have a1 := k1.at_ 1 rfl
      have a2 := k1.at_ 2 rfl
      have f0 := k1.frozen 0
      have f1 := k1.frozen 1
      have f2 := k1.frozen 2
      have b0 := k2.at_ 0 rfl
      have b1 := k2.at_ 1 rfl
      have b2 := k2.at_ 2 rfl
      have g0 := k2.frozen 0
      have g1 := k2.frozen 1
      have g2 := k2.frozen 2
      have hl : w.heap.size < _ := k1.lt
      have hl2 : w.heap.size + 1 < _ := k2.lt
      have K1 := hd k1
      have K2 := hd k2
      clear k1 k2
      go_wp2
      (try simp only [Exit.inBlock, Exit.then])
      refine bodyPost_ret (res_cell rfl _ _ _ _ _ _ _ rfl ((((K2.o.far (by show w.heap.size + 1 ≠ w.heap.size; omega) _).set_ 0 _).set_ 1 _).set_ 2 _) rfl rfl rfl) rfl ⟨?_, ?_⟩
      · exact retF (f := ⟨k, 0, T⟩) (a := 0) (by rw [HR.o, resF_0]) (by rw [HR.o])
      · exact (((((HW.o _ HB2.o).setCell (Nat.le_refl _) _).setCell (Nat.le_succ _) _).setCell (Nat.le_succ _) _).setCell (Nat.le_succ _) _)
  · rw [if_neg (fun h => hE h.1)] at HR
    have nE : (E != 0) = true := by simpa using hE
    have eE : (E == 0) = false := by simpa using hE
    have HE := hd hE
    clear hE H4
    go_enter Tryz.func123, Tryz.ntmps123
    go_wp2_with fail
    rw [← hx.o]
    obtain ⟨k1, k2⟩ := HC.o _ HB0.o
    have a0 := k1.at_ 0 rfl
    have a1 := k1.at_ 1 rfl
    have a2 := k1.at_ 2 rfl
    have f0 := k1.frozen 0
    have f1 := k1.frozen 1
    have f2 := k1.frozen 2
    have b0 := k2.at_ 0 rfl
    have b1 := k2.at_ 1 rfl
    have b2 := k2.at_ 2 rfl
    have g0 := k2.frozen 0
    have g1 := k2.frozen 1
    have g2 := k2.frozen 2
    have hl : w.heap.size < _ := k1.lt
    have hl2 : w.heap.size + 1 < _ := k2.lt
    have K1 := hd k1
    have K2 := hd k2
    clear k1 k2
    go_wp2_with fail
    refine (H1.o _).mono ?_
    rintro e w1 ⟨rfl, rfl⟩
    go_wp2_with fail
    refine (H2.o _).mono ?_
    rintro e w1 ⟨rfl, rfl⟩
    go_wp2_with fail
    refine (H3.o _ (HW.o _ HB0.o)).mono ?_
    rintro e w2 ⟨rfl, hb2⟩
    have HB2 := hd hb2
    clear hb2
    clear a0 a1 a2 f0 f1 f2 b0 b1 b2 g0 g1 g2 hl hl2 K1 K2
    obtain ⟨k1, k2⟩ := HC.o _ HB2.o
    have a0 := k1.at_ 0 rfl
    have a1 := k1.at_ 1 rfl
    have a2 := k1.at_ 2 rfl
    have f0 := k1.frozen 0
    have f1 := k1.frozen 1
    have f2 := k1.frozen 2
    have b0 := k2.at_ 0 rfl
    have b1 := k2.at_ 1 rfl
    have b2 := k2.at_ 2 rfl
    have g0 := k2.frozen 0
    have g1 := k2.frozen 1
    have g2 := k2.frozen 2
    have hl : w.heap.size < _ := k1.lt
    have hl2 : w.heap.size + 1 < _ := k2.lt
    have K1 := hd k1
    have K2 := hd k2
    clear k1 k2
    go_wp2
    (try simp only [Exit.inBlock, Exit.then])
    refine bodyPost_ret (res_cell rfl _ _ _ _ _ _ _ rfl (((K2.o.set_ 0 _).set_ 1 _).set_ 2 _) rfl rfl rfl) rfl ⟨?_, ?_⟩
    · exact retF (f := noFld) (a := E) (by rw [HR.o, resF_e _ HE.o]) (by rw [HR.o])
    · exact ((((HW.o _ HB2.o).setCell (Nat.le_succ _) _).setCell (Nat.le_succ _) _).setCell (Nat.le_succ _) _)

end Go.Proofs.YtogjokofmfpmgaaGreatDoor
