/-
  The collection's Live.
-/
import Derived.Test.YtfacfdjapjhpeaaGreatDoorGAE
import Derived.Test.YtfacfdjapjhpeaaGreatDoorGAF
import Derived.Shelf.SlSortCmp.NoneTotal
import Derived.Shelf.SlLaysF0
import Derived.Test.YtfacfdjapjhpeaaGreatDoorProg
import Derived.Test.YtfacfdjapjhpeaaGreatDoorGAD
import Derived.Laws.StructEq
import Derived.RangeFuncNested
import Derived.RangeFuncBound
import Derived.RangeFuncCalls
import Derived.RangeFuncLeaves
import Derived.Shelf.Abstract
import Derived.Shelf.RegionOpen
import Derived.OwnWalkIn
import Derived.TacticsInMore
import Derived.LoopNIn
import Derived.LoopIn
import Derived.Deep.CutRange
import Derived.Test.YtfacfdjapjhpeaaGreatDoorGAB
set_option linter.unusedVariables false
set_option linter.unusedSimpArgs false
namespace Go.Proofs.YtfacfdjapjhpeaaGreatDoor
open Go.RowKit Go.Lib

def itOf (e : List UInt8 × Ce) : It := ⟨e.1, e.2.ver, false, e.2.text⟩
def liveL (ml : ML Ce) : List It := ml.map itOf
theorem liveL_len (ml : ML Ce) : (liveL ml).length = ml.length := by simp [liveL]

attribute [local go_sem] Oper.semAt_some

set_option maxRecDepth 100000 in
set_option maxHeartbeats 4000000 in
theorem clive_calls (w : World) (S : Nat → Prop) (b : Nat) (s : Cs) (h : ColR w S b s) (hl : s.ml.length ≤ 1000000) :
    Calls Tryz.prog 64 #[.pointer (some ⟨b, 0, none⟩)] w fun e W' => ∃ A c, e = .returned (.slice A s.ml.length c) ∧ Row W' (From w.heap.size) 63 4 A s.ml.length c (itsEnc (liveL s.ml)) ∧ Below w.heap.size w W' := by
  obtain ⟨mb, rb, S1, S2, hb, hO, hR, hSb, hS1, hS2⟩ := h
  generalize s.ml = ml at *
  obtain ⟨i0, hi, hz0, hz1, hz2⟩ := info_parts itInfo
  have hb0 := hb.at_ 0 rfl
  have hbl := hb.lt
  refine (callsIn_wide (n := 5)).1 (callsIn_of_wp_marks Tryz.func64 rfl trivial ((wpIn_wide (n := 5)).2 ?_))
  simp only [Tryz.ntmps64, List.size_toArray, List.length_cons, List.length_nil, Nat.reduceAdd, Nat.reduceSub, Array.replicate_succ, Array.replicate_zero, List.push_toArray, List.append_toArray, List.nil_append, List.cons_append]
  go_wp2_with fail
  refine (omallEntCol_calls _ mb).mono ?_
  rintro e w' ⟨rfl, rfl⟩
  go_wp2_with fail
  have bO : Blk (((w.alloc (.cells #[.slice none 0 0] 37)).alloc (.cells #[.pointer (some ⟨mb, 0, none⟩)] 156)).alloc (.cells #[.string ⟨#[]⟩] 9)) w.heap.size 37 #[.slice none 0 0] := ((Blk.new w 37 _).alloc _).alloc _
  have bM : Blk (((w.alloc (.cells #[.slice none 0 0] 37)).alloc (.cells #[.pointer (some ⟨mb, 0, none⟩)] 156)).alloc (.cells #[.string ⟨#[]⟩] 9)) (w.heap.size + 1) 156 #[.pointer (some ⟨mb, 0, none⟩)] := (Blk.new_ _ _ (by simp) _ _).alloc _
  have bP : Blk (((w.alloc (.cells #[.slice none 0 0] 37)).alloc (.cells #[.pointer (some ⟨mb, 0, none⟩)] 156)).alloc (.cells #[.string ⟨#[]⟩] 9)) (w.heap.size + 1 + 1) 9 #[.string ⟨#[]⟩] := Blk.new_ _ _ (by simp) _ _
  have hB0 : Below w.heap.size w (((w.alloc (.cells #[.slice none 0 0] 37)).alloc (.cells #[.pointer (some ⟨mb, 0, none⟩)] 156)).alloc (.cells #[.string ⟨#[]⟩] 9)) := (((Below.refl _ w).alloc (Nat.le_refl _) _).alloc (by simp) _).alloc (by simp; omega) _
  have hsz : (((w.alloc (.cells #[.slice none 0 0] 37)).alloc (.cells #[.pointer (some ⟨mb, 0, none⟩)] 156)).alloc (.cells #[.string ⟨#[]⟩] 9)).heap.size = w.heap.size + 3 := by simp
  obtain ⟨W0, hW0⟩ : ∃ W0, ((w.alloc (.cells #[.slice none 0 0] 37)).alloc (.cells #[.pointer (some ⟨mb, 0, none⟩)] 156)).alloc (.cells #[.string ⟨#[]⟩] 9) = W0 := ⟨_, rfl⟩
  rw [hW0] at bO bM bP hB0 hsz ⊢
  clear hW0
  have hT : ∀ k, (k < w.heap.size ∨ k = w.heap.size + 1 ∨ k = w.heap.size + 1 + 1) → k < W0.heap.size := fun k hk => by omega
  have HI := hd hi
  have HL := hd hl
  clear hi hb hb0
  refine (wpIn_wide (n := 5)).1 ?_
  refine wpIn_rangeFunc_ownH rfl (by omega) (gf := 156) (lb := #[.pointer (some ⟨w.heap.size + 1, 0, none⟩), .pointer (some ⟨w.heap.size + 1 + 1, 0, none⟩)]) rfl trivial (enters_of Tryz.func156 (by kernel_rfl) rfl)
    (omallEntCol_stops 3 (w.heap.size + 1) (w.heap.size + 1 + 1) mb (fun k => k < w.heap.size ∨ k = w.heap.size + 1 ∨ k = w.heap.size + 1 + 1) (S1) ml hl W0 bM bP (.inr (.inl rfl)) (.inr (.inr rfl)) (hO.below hB0) (fun k hk => .inl (hS1 k hk).2.2.2)) chgK_t (chgK_b hT) (Below.refl _ _) (fun _ => rfl)
    (fun pre W => (∃ A c, Blk W w.heap.size 37 #[.slice A pre.length c] ∧ Row W (From W0.heap.size) 63 4 A pre.length c (itsEnc (liveL pre))) ∧ Below w.heap.size w W ∧ W0.heap.size ≤ W.heap.size)
    (fun _ _ _ => False)
    (fun pre X Y row hs hg hr => by
      obtain ⟨⟨A, c, h1, h2⟩, h3, h4⟩ := hs
      exact ⟨⟨A, c, blk_own h1 hg hr, row_own h2 hg hr⟩, below_own h3 (Nat.le_refl _) (by omega) hg hr, Nat.le_trans h4 hg.size⟩)
    (fun _ _ _ _ _ hs _ _ => hs)
    ⟨⟨none, 0, bO, Row.nil _ _ _ _⟩, hB0, Nat.le_refl _⟩
    (fun x a' W => ∃ Bx, W0.heap.size ≤ Bx ∧ Blk W Bx 179 (ceEnc x.2).toArray ∧ a' = { tmps := #[.pointer (some ⟨b, 0, none⟩), undef, .slice none 0 0, .pointer (some ⟨w.heap.size, 0, none⟩), .string (bs x.1), .pointer (some ⟨Bx, 0, none⟩), .pointer (some ⟨b, 0, none⟩), .pointer (some ⟨b, 0, none⟩), .pointer (some ⟨b, 0, none⟩), .pointer (some ⟨mb, 0, none⟩), .func (.func 156) #[] #[.pointer (some ⟨w.heap.size + 1, 0, none⟩), .pointer (some ⟨w.heap.size + 1 + 1, 0, none⟩)], .string (bs x.1), .agg (ceEnc x.2).toArray, undef, undef, undef, undef, undef, undef, undef, undef, undef, undef], defers := [] })
    (fun x a' _ X Y row hs hg hr => by
      obtain ⟨Bx, h1, h2, h3⟩ := hs
      exact ⟨Bx, h1, blk_own h2 hg hr, h3⟩)
    ?assign ?body ?done ?stop
  case assign =>
    rintro l pre ⟨key, ver, card⟩ W K ⟨⟨A, c, h1, h2⟩, h3, h4⟩ hK
    simp only [ceEnc]
    gi_wp2
    exact hK _ _ ((KeepsOthers.alloc _ _).from _) ((Chg.refl _ _).alloc _) ⟨⟨A, c, h1.alloc _, h2.alloc _⟩, h3.alloc h3.size _, by simp; omega⟩ ⟨W.heap.size, h4, Blk.new W 179 _, rfl⟩
  case body =>
    rintro l pre ⟨key, ver, card⟩ a' W hl2 ⟨r, hr⟩ ⟨⟨A, c, hO1, hR1⟩, hB1, hs1⟩ ⟨Bx, hBx, bX, rfl⟩ hlt
    simp only [ceEnc] at bX ⊢
    have c0 := hO1.at_ 0 rfl
    have hOl := hO1.lt
    have hXl := bX.lt
    have x0 := bX.at_ 0 rfl
    have x1 := bX.at_ 1 rfl
    have hpl : pre.length < 1000000 := by have := HL.o; omega
    have hfar : Hd (¬ Of A w.heap.size) := hd (fun hk => by
      have h1 : W0.heap.size ≤ w.heap.size := hR1.of_sub _ hk
      omega)
    have HB1 := hd hB1
    have HR1 := hd hR1
    have HO1 := hd hO1
    have HX := hd bX
    clear hR1 hO1 bX hB1
    gi_wp2_with (gi_at_builtin; refine wpListIn_append_row rfl _ _ 37 rfl (Of A) 63 i0 (.agg #[.string ⟨#[]⟩, .int .i64 0, .bool false, .string ⟨#[]⟩]) 4 48 Tryz.underlying37 HI.o hz0 hz1 hz2 rfl A pre.length c (itsEnc (liveL pre)) rfl (HR1.o.own_.alloc _) ⟨W.heap.size, 0, none⟩ 1 1 [.string (bs key), .int .i64 ver, .bool false, .string (bs card)] rfl rfl (cells_at (Blk.new_ _ _ rfl _ _) rfl) (itEnc_one ⟨key, ver, false, card⟩) (by omega) (by unfold maxLen; omega) (by omega) ?_; intro A2 c2 w2 hown2 hchg2; have hb2 := (HO1.o.alloc _).chg hchg2 hfar.o; have q1 := hb2.at_ 0 rfl; have q2 := hb2.frozen 0; have HB2 := hd hb2; have HW2 := hd hown2; have HC2 := hd hchg2; clear hb2 hown2 hchg2)
    have HC : Chg (fun k => Of A k ∨ k = w.heap.size) W (w2.setCell ⟨w.heap.size, 0, none⟩ (.slice A2 (pre.length + 1) c2)) := (((Chg.refl _ W).alloc _).trans HC2.o (fun q hq => .inl (.inl hq))).setCell (.inl (.inr rfl)) _
    have e1 : (pre ++ [(key, (⟨ver, card⟩ : Ce))]).length = pre.length + 1 := by simp
    have e2 : itsEnc (liveL (pre ++ [(key, (⟨ver, card⟩ : Ce))])) = itsEnc (liveL pre) ++ [.string (bs key), .int .i64 ver, .bool false, .string (bs card)] := by simp [itsEnc, itEnc, liveL, itOf]
    refine ⟨kf_of_chg HC (fun k o hk ho => ?_), HC.mono (fun k hk ht => ?_), ⟨A2, c2, ?_, ?_⟩, ?_, ?_⟩
    · rcases hk with hk | rfl
      · exact of_cells HR1.o k o hk ho
      · exact blk_cells HO1.o o ho
    · rcases hk with hk | rfl
      · have : W0.heap.size ≤ k := HR1.o.of_sub _ hk
        omega
      · omega
    · rw [e1]; exact HB2.o.set_ 0 _
    · rw [e1, e2]
      refine (HW2.o.mono fun q hq => ?_).far (HW2.o.ne_blk HB2.o (by decide)) _
      rcases hq with hq | hq
      · exact HR1.o.of_sub q hq
      · simp at hq
        show W0.heap.size ≤ q
        omega
    · refine HB1.o.trans (HC.below (fun k hk => ?_) HB1.o.size)
      rcases hk with hk | rfl
      · have : W0.heap.size ≤ k := HR1.o.of_sub _ hk
        omega
      · exact Nat.le_refl _
    · exact Nat.le_trans hs1 HC.size
  case done =>
    rintro D ys W hD rfl ⟨⟨A, c, hO1, hR1⟩, hB1, hs1⟩ hK
    have c0 := hO1.at_ 0 rfl
    have HR1 := hd hR1
    have HB1 := hd hB1
    have HK := hd hK
    have HD := hd hD
    clear hR1 hO1 hB1
    go_wp2
    refine ⟨by simp, .inl ⟨_, _, rfl, run_takeDeferred HK.o, ?_⟩⟩
    obtain ⟨g1, g2⟩ := put_own (o' := .deferred none) HK.o rfl
    refine ⟨_, results_tmp rfl _ _ _, A, c, rfl, (row_own HR1.o g1 g2).mono (fun k hk => ?_), below_own HB1.o (Nat.le_refl _) (by have := HD.o; omega) g1 g2⟩
    have : W0.heap.size ≤ k := hk
    show w.heap.size ≤ k
    omega
  case stop =>
    rintro D c pre W _ _ h _
    exact h.elim

end Go.Proofs.YtfacfdjapjhpeaaGreatDoor
namespace Go.Proofs.YtfacfdjapjhpeaaGreatDoor
open Go.Shelf
def sortIt_ren : Go.Shelf.Ren := ⟨fun | 6 => 149 | 15 => 171 | 14 => 170 | 28 => 195 | 29 => 196 | 20 => 187 | 21 => 188 | 22 => 189 | 23 => 190 | 24 => 191 | 25 => 192 | 26 => 193 | 27 => 194 | 46 => 210 | 47 => 211 | 48 => 212 | 49 => 213 | 50 => 214 | 57 => 233 | n => n, fun | 22 => 37 | 24 => 63 | 25 => 226 | 3 => 3 | 39 => 205 | 0 => 0 | 53 => 267 | 55 => 168 | 4 => 4 | 46 => 261 | 45 => 260 | 50 => 142 | 5 => 5 | 9 => 9 | 66 => 284 | 70 => 288 | 76 => 302 | 77 => 303 | n => n, fun | n => n⟩
theorem sortIt : Go.Proofs.SlLaysF0.n6 Tryz.prog sortIt_ren := {
  mixed := by kernel_rfl
  f6 := ⟨Tryz.f149.name, by decide, Tryz.func149.trans (congrArg some (by kernel_rfl))⟩
  f14 := ⟨Tryz.f170.name, by decide, Tryz.func170.trans (congrArg some (by kernel_rfl))⟩
  f15 := Tryz.func171.trans (congrArg some (by kernel_rfl))
  f20 := ⟨Tryz.f187.name, by decide, Tryz.func187.trans (congrArg some (by kernel_rfl))⟩
  f21 := ⟨Tryz.f188.name, by decide, Tryz.func188.trans (congrArg some (by kernel_rfl))⟩
  f22 := ⟨Tryz.f189.name, by decide, Tryz.func189.trans (congrArg some (by kernel_rfl))⟩
  f23 := ⟨Tryz.f190.name, by decide, Tryz.func190.trans (congrArg some (by kernel_rfl))⟩
  f24 := ⟨Tryz.f191.name, by decide, Tryz.func191.trans (congrArg some (by kernel_rfl))⟩
  f25 := ⟨Tryz.f192.name, by decide, Tryz.func192.trans (congrArg some (by kernel_rfl))⟩
  f26 := ⟨Tryz.f193.name, by decide, Tryz.func193.trans (congrArg some (by kernel_rfl))⟩
  f27 := ⟨Tryz.f194.name, by decide, Tryz.func194.trans (congrArg some (by kernel_rfl))⟩
  f28 := Tryz.func195.trans (congrArg some (by kernel_rfl))
  f29 := Tryz.func196.trans (congrArg some (by kernel_rfl))
  f46 := ⟨Tryz.f210.name, by decide, Tryz.func210.trans (congrArg some (by kernel_rfl))⟩
  f47 := Tryz.func211.trans (congrArg some (by kernel_rfl))
  f48 := Tryz.func212.trans (congrArg some (by kernel_rfl))
  f49 := ⟨Tryz.f213.name, by decide, Tryz.func213.trans (congrArg some (by kernel_rfl))⟩
  f50 := ⟨Tryz.f214.name, by decide, Tryz.func214.trans (congrArg some (by kernel_rfl))⟩
  f57 := ⟨Tryz.f233.name, by decide, Tryz.func233.trans (congrArg some (by kernel_rfl))⟩
  t0 := Tryz.underlying0
  a0 := Tryz.isAgg0
  z0 := Tryz.sizeOf0
  v0 := Tryz.zeroValue0
  t3 := Tryz.underlying3
  a3 := Tryz.isAgg3
  z3 := Tryz.sizeOf3
  v3 := Tryz.zeroValue3
  t4 := Tryz.underlying4
  a4 := Tryz.isAgg4
  z4 := Tryz.sizeOf4
  v4 := Tryz.zeroValue4
  t5 := Tryz.underlying5
  a5 := Tryz.isAgg5
  z5 := Tryz.sizeOf5
  v5 := Tryz.zeroValue5
  t9 := Tryz.underlying9
  a9 := Tryz.isAgg9
  z9 := Tryz.sizeOf9
  v9 := Tryz.zeroValue9
  t22 := Tryz.underlying37
  a22 := Tryz.isAgg37
  z22 := Tryz.sizeOf37
  v22 := Tryz.zeroValue37
  t25 := Tryz.underlying226
  a25 := Tryz.isAgg226
  z25 := Tryz.sizeOf226
  v25 := Tryz.zeroValue226
  t39 := Tryz.underlying205
  a39 := Tryz.isAgg205
  z39 := Tryz.sizeOf205
  v39 := Tryz.zeroValue205
  t45 := Tryz.underlying260
  a45 := Tryz.isAgg260
  z45 := Tryz.sizeOf260
  v45 := Tryz.zeroValue260
  t46 := Tryz.underlying261
  a46 := Tryz.isAgg261
  z46 := Tryz.sizeOf261
  v46 := Tryz.zeroValue261
  t50 := Tryz.underlying142
  a50 := Tryz.isAgg142
  z50 := Tryz.sizeOf142
  v50 := Tryz.zeroValue142
  t53 := Tryz.underlying267
  a53 := Tryz.isAgg267
  z53 := Tryz.sizeOf267
  v53 := Tryz.zeroValue267
  t55 := Tryz.underlying168
  a55 := Tryz.isAgg168
  z55 := Tryz.sizeOf168
  v55 := Tryz.zeroValue168
  t66 := Tryz.underlying284
  a66 := Tryz.isAgg284
  z66 := Tryz.sizeOf284
  v66 := Tryz.zeroValue284
  t70 := Tryz.underlying288
  a70 := Tryz.isAgg288
  z70 := Tryz.sizeOf288
  v70 := Tryz.zeroValue288
  t76 := Tryz.underlying302
  a76 := Tryz.isAgg302
  z76 := Tryz.sizeOf302
  v76 := Tryz.zeroValue302
  t77 := Tryz.underlying303
  a77 := Tryz.isAgg303
  z77 := Tryz.sizeOf303
  v77 := Tryz.zeroValue303 }
end Go.Proofs.YtfacfdjapjhpeaaGreatDoor
namespace Go.Proofs.YtfacfdjapjhpeaaGreatDoor
open Go.RowKit Go.Shelf Go.Lib Go.Sort

instance : Inhabited It := ⟨⟨[], 0, false, []⟩⟩
def itLt (x y : It) : Bool := decide (x.ver < y.ver) || (decide (x.ver = y.ver) && decide (compareBytes x.uid y.uid < 0))
def itCmp (x y : It) : Int := if x.ver < y.ver then -1 else if y.ver < x.ver then 1 else compareBytes x.uid y.uid
theorem itLt_eq (x y : It) : itLt x y = true ↔ (x.ver < y.ver ∨ (x.ver = y.ver ∧ compareBytes x.uid y.uid < 0)) := by simp [itLt]
theorem ltOf_it (x y : It) : ltOf itCmp x y = itLt x y := by
  rw [Bool.eq_iff_iff, itLt_eq]
  simp only [ltOf, itCmp, decide_eq_true_iff]
  by_cases h1 : x.ver < y.ver
  · simp [h1]
  · by_cases h2 : y.ver < x.ver
    · simp [h1, h2]; omega
    · have : x.ver = y.ver := by omega
      simp [this]
theorem swo_it : SWO (ltOf itCmp) where
  irrefl x := by rw [ltOf_it]; simp [itLt, cmp_self]
  trans x y z h1 h2 := by
    rw [ltOf_it, itLt_eq] at *
    rcases h1 with h1 | ⟨h1, h3⟩ <;> rcases h2 with h2 | ⟨h2, h4⟩
    · left; omega
    · left; omega
    · left; omega
    · exact .inr ⟨by omega, cmp_trans h3 h4⟩
  ntrans x y z h1 h2 := by
    rw [ltOf_it] at *
    have e1 : ¬ itLt x y = true := by simp [h1]
    have e2 : ¬ itLt y z = true := by simp [h2]
    have : ¬ itLt x z = true := by
      rw [itLt_eq] at *
      rintro (h | ⟨h, h3⟩)
      · have : ¬ x.ver < y.ver := fun h => e1 (.inl h)
        have : ¬ y.ver < z.ver := fun h => e2 (.inl h)
        omega
      · have k1 : ¬ x.ver < y.ver := fun h => e1 (.inl h)
        have k2 : ¬ y.ver < z.ver := fun h => e2 (.inl h)
        have a1 : ¬ compareBytes x.uid y.uid < 0 := fun h5 => e1 (.inr ⟨by omega, h5⟩)
        have a2 : ¬ compareBytes y.uid z.uid < 0 := fun h5 => e2 (.inr ⟨by omega, h5⟩)
        by_cases hyx : x.uid = y.uid
        · rw [hyx] at h3; exact a2 h3
        · exact a2 (cmp_trans (cmp_not a1 hyx) h3)
    simpa using this

set_option maxHeartbeats 1000000 in
theorem order_calls (x y : It) (W : World) : Calls Tryz.prog 150 #[.agg (itEnc x).toArray, .agg (itEnc y).toArray] W fun e w' => e = .returned (.int .i64 (itCmp x y)) ∧ ∃ q os', w' = grow (W.drewN q) os' := by
  obtain ⟨xu, xv, xg, xc⟩ := x
  obtain ⟨yu, yv, yg, yc⟩ := y
  simp only [itEnc]
  have hs := hd (fun w => scmp_calls w xu yu)
  by_cases h1 : xv < yv
  · have hc : itCmp ⟨xu, xv, xg, xc⟩ ⟨yu, yv, yg, yc⟩ = -1 := by simp [itCmp, h1]
    rw [hc]
    clear hc
    go_enter Tryz.func150, Tryz.ntmps150
    go_wp2
    go_ret
    exact ⟨rfl, 0, _, by rw [alloc_eq_grow, alloc_eq_grow, grow_grow]; rfl⟩
  · by_cases h2 : yv < xv
    · have hc : itCmp ⟨xu, xv, xg, xc⟩ ⟨yu, yv, yg, yc⟩ = 1 := by simp [itCmp, h1, h2]
      rw [hc]
      clear hc
      go_enter Tryz.func150, Tryz.ntmps150
      go_wp2
      go_ret
      exact ⟨rfl, 0, _, by rw [alloc_eq_grow, alloc_eq_grow, grow_grow]; rfl⟩
    · have hc : itCmp ⟨xu, xv, xg, xc⟩ ⟨yu, yv, yg, yc⟩ = compareBytes xu yu := by simp [itCmp, h1, h2]
      rw [hc]
      clear hc
      go_enter Tryz.func150, Tryz.ntmps150
      go_wp2_with fail
      refine (hs.o _).mono ?_
      rintro e w1 ⟨rfl, rfl⟩
      go_wp2
      go_ret
      exact ⟨rfl, 0, _, by rw [alloc_eq_grow, alloc_eq_grow, grow_grow]; rfl⟩

theorem itsEnc_len (l : List It) : (itsEnc l).length = l.length * 4 := flat_length itEnc 4 itEnc_len l
theorem itsEnc_at4 (l : List It) (t : Nat) (ht : t < l.length * 4) : (itsEnc l)[t]? = some (itEnc (l[t / 4]?.getD default))[t % 4]! := by
  have hk : t / 4 < l.length := by omega
  have h := flat_at itEnc 4 itEnc_len l (t / 4) hk (t % 4) (Nat.mod_lt _ (by decide))
  have ht2 : t / 4 * 4 + t % 4 = t := by omega
  rw [ht2] at h
  show (l.flatMap itEnc)[t]? = _
  rw [h]
  have hx : l[t / 4]?.getD default = l[t / 4] := by simp [hk]
  rw [hx]
  have hl : t % 4 < (itEnc l[t / 4]).length := by rw [itEnc_len]; exact Nat.mod_lt _ (by decide)
  rw [getElem!_pos (itEnc (l[t / 4])) (t % 4) hl, List.getElem?_eq_getElem hl]

/-- SortFunc. -/
def SortIt : Prop := ∀ (w : World) (S : Nat → Prop) (A : Option Addr) (n c : Nat) (l : List It), n = l.length → Row w S 63 4 A n c (itsEnc l) → n ≤ 1000000 →
  Calls Tryz.prog 149 #[.slice A n c, .func (.func 150) #[] #[]] w fun e w' => e = .returned (.tuple #[]) ∧ ∃ l' : List It, l'.Perm l ∧ l'.Pairwise (fun x y => itLt y x = false) ∧ Row w' S 63 4 A n c (itsEnc l') ∧ Chg (Of A) w w'

theorem holdsK_of_row {w : World} {S : Nat → Prop} {g n c : Nat} {l : List It} (hr : Row w S 63 4 (some ⟨g, 0, none⟩) n c (itsEnc l)) (hn : n = l.length) : HoldsK itEnc 4 w g 0 l.toArray := by
  intro t ht
  rw [size_flatK] at ht
  simp only [List.size_toArray] at ht
  obtain ⟨g', hA, _, _, _, _, hc, hf⟩ := hr.at_ (by omega)
  injection hA with hA
  injection hA with hA
  subst hA
  refine ⟨?_, hf _⟩
  rw [Nat.zero_add]
  refine hc t _ ?_
  rw [get_flatK _ _ _ _ (by simpa using ht)]
  have hk : t / 4 < l.length := by omega
  have hx : (l.toArray)[t / 4]! = l[t / 4]?.getD default := by
    rw [getElem!_pos _ _ (by simpa using hk)]
    simp [hk]
  rw [hx]
  exact itsEnc_at4 l t (by omega)

theorem flat_toList (l : List It) : (flatK itEnc 4 l.toArray).toList = itsEnc l := by
  apply List.ext_getElem?
  intro t
  by_cases ht : t < l.length * 4
  · rw [itsEnc_at4 l t ht, Array.getElem?_toList, Array.getElem?_eq_getElem (by rw [size_flatK]; simpa using ht)]
    rw [← getElem!_pos _ t (by rw [size_flatK]; simpa using ht), get_flatK _ _ _ _ (by simpa using ht)]
    have hx : (l.toArray)[t / 4]! = l[t / 4]?.getD default := by
      rw [getElem!_pos _ _ (by simp; omega)]
      simp [show t / 4 < l.length by omega]
    rw [hx]
  · rw [List.getElem?_eq_none (by rw [Array.length_toList, size_flatK]; simp; omega), List.getElem?_eq_none (by rw [itsEnc_len]; omega)]

/-- Behind the sort the same slice owns the sorted row. -/
theorem row_sorted {w : World} {S : Nat → Prop} {g n c m : Nat} {l l' : List It} {os : Array Obj} (hr : Row w S 63 4 (some ⟨g, 0, none⟩) n c (itsEnc l)) (hn : n = l.length) (hl : l'.length = l.length) :
    Row (sortWorldK itEnc 4 w g 0 m l'.toArray os) S 63 4 (some ⟨g, 0, none⟩) n c (itsEnc l') ∧ Chg (Of (some ⟨g, 0, none⟩)) w (sortWorldK itEnc 4 w g 0 m l'.toArray os) := by
  obtain ⟨g', cur, e, hS, hb, hnc, hcm, hcs, ht⟩ := hr.block rfl
  injection e with e
  subst e
  have hg := hb.lt
  have hF : (flatK itEnc 4 l'.toArray).size = n * 4 := by rw [size_flatK]; simp [hl, hn]
  have hbl : Blk (sortWorldK itEnc 4 w g 0 m l'.toArray os) g 63 (putCells id 0 (flatK itEnc 4 l'.toArray) cur) := by
    unfold Blk sortWorldK
    rw [heap_grow_old _ _ (by simpa [putRowK] using hg)]
    unfold Blk at hb
    simp [putRowK, putRow, mapBlock, Sort.ahead, Array.getElem?_modify, hb, onCells]
  refine ⟨Row.of_block hbl hS hnc hcm (by simp [putCells, hcs]) ?_ (by rw [itsEnc_len, hl, hn]), ⟨rfl, rfl, rfl, by simp [sortWorldK, putRowK], fun k hk hne => ?_⟩⟩
  · rw [← flat_toList, ← hF]
    apply List.ext_getElem?
    intro j
    by_cases hj : j < (flatK itEnc 4 l'.toArray).size
    · have hjc : j < cur.size := by omega
      rw [List.getElem?_take_of_lt hj, Array.getElem?_toList, Array.getElem?_toList]
      generalize flatK itEnc 4 l'.toArray = F at hj hF
      simp [putCells, hj, hjc]
    · rw [List.getElem?_take_eq_none (by omega), List.getElem?_eq_none (by rw [Array.length_toList]; omega)]
  · unfold sortWorldK
    rw [heap_grow_old _ _ (by simpa [putRowK] using hk)]
    have : g ≠ k := fun e => hne (by rw [← e]; rfl)
    simp [putRowK, putRow, mapBlock, Sort.ahead, Array.getElem?_modify, this]

theorem cmpLays_it (blk off size : Nat) (w : World) : CmpLays Tryz.prog 150 #[] itEnc 4 itCmp blk off size w :=
  fun _ _ _ _ x y => order_calls x y _

theorem sortIt_holds : SortIt := by
  intro w S A n c l hn hr hsz
  cases A with
  | none =>
    obtain ⟨rfl, rfl, h3⟩ := hr.none_
    have hl : l = [] := List.eq_nil_of_length_eq_zero hn.symm
    subst hl
    have hcon := AnyF.slices_SortFunc_none sortIt none 0 (.func (.func 150) #[] #[]) w
    change Calls Tryz.prog 149 _ _ _ at hcon
    refine hcon.mono ?_
    rintro e w' ⟨rfl, rfl⟩
    exact ⟨rfl, [], List.Perm.refl _, List.Pairwise.nil, hr, Chg.refl _ _⟩
  | some a =>
    obtain ⟨g, cur, rfl, _⟩ := hr.block rfl
    have eg : ∀ args w, (callFunc 150 args).run Tryz.prog w = .ok (.enter 150 args) w := enters_of Tryz.func150 (by kernel_rfl) rfl
    by_cases h0 : n = 0
    · subst h0
      have hl : l = [] := List.eq_nil_of_length_eq_zero hn.symm
      subst hl
      have hcon := AnyF.slices_SortFunc_none sortIt (some ⟨g, 0, none⟩) c (.func (.func 150) #[] #[]) w
      change Calls Tryz.prog 149 _ _ _ at hcon
      refine hcon.mono ?_
      rintro e w' ⟨rfl, rfl⟩
      exact ⟨rfl, [], List.Perm.refl _, List.Pairwise.nil, hr, Chg.refl _ _⟩
    · have hcon := AnyQ.slices_SortFunc sortIt 4 Tryz.isAgg63 Tryz.sizeOf63 itEnc (fun _ => rfl) (fun x v hv => itEnc_one x v hv) itCmp swo_it 150 #[] g 0 c l.toArray w eg (cmpLays_it g 0 _ w) (holdsK_of_row hr hn) (hr.lt rfl) (by simp; omega)
      change Calls Tryz.prog 149 _ _ _ at hcon
      have he : l.toArray.size = n := by simp [hn]
      rw [he] at hcon
      refine hcon.mono ?_
      rintro e w' ⟨rfl, d', m, os, hp, hs, rfl⟩
      have hd : d'.toList.Perm l := by
        have := hp.2.2
        have e1 : d'.size = n := by rw [hp.1, he]
        rw [← e1, Array.extract_size] at this
        rw [show d'.size = l.toArray.size by rw [e1, he], Array.extract_size] at this
        simpa using this
      have hrow := row_sorted (m := m) (os := os) (l' := d'.toList) hr hn hd.length_eq
      simp only [Array.toArray_toList] at hrow
      refine ⟨rfl, d'.toList, hd, ?_, hrow.1, hrow.2⟩
      rw [List.pairwise_iff_getElem]
      intro i j hi hj hij
      have := hs i j (Nat.zero_le _) hij (by rw [← he, ← hp.1]; simpa using hj)
      rw [ltOf_it] at this
      simp only [Array.length_toList] at hi hj
      rw [getElem!_pos d' j hj, getElem!_pos d' i hi] at this
      simpa using this

end Go.Proofs.YtfacfdjapjhpeaaGreatDoor
namespace Go.Proofs.YtfacfdjapjhpeaaGreatDoor
open Go.RowKit Go.Lib

theorem back_calls (w : World) (b : Nat) :
    Calls Tryz.prog 148 #[.pointer (some ⟨b, 0, none⟩)] w fun e w' => e = .returned (.func (.func 169) #[] #[.pointer (some ⟨w.heap.size, 0, none⟩)]) ∧ w.alloc (.cells #[.pointer (some ⟨b, 0, none⟩)] 157) = w' := by
  go_enter Tryz.func148, Tryz.ntmps148
  go_wp2
  go_ret
  exact ⟨rfl, rfl⟩

attribute [local go_sem] Oper.semAt_some

set_option maxHeartbeats 4000000 in
set_option maxRecDepth 100000 in
theorem back1_calls (n l Bm b : Nat) (T S : Nat → Prop) (cap : Int) (P : Ch → Prop) (rl : List {x : Ch // P x}) (hl : rl.length ≤ 1000000) (J Jx : List {x : Ch // P x} → World → Prop)
    (hY : ∀ pre x W, J pre W → pre.length < rl.length → YieldAt Fence.wide n Tryz.prog l #[.agg (chEnc x.1).toArray] W fun e W' => (e = .returned (.bool true) ∧ J (pre ++ [x]) W' ∧ Chg (fun k => ¬ T k) W W') ∨ (e = .returned (.bool false) ∧ Jx (pre ++ [x]) W'))
    (W : World) (hJ : AbidesFrom W.heap.size J) (hBm : Blk W Bm 157 #[.pointer (some ⟨b, 0, none⟩)]) (TBm : T Bm) (hO : RingR W S b cap (rl.map (·.1))) (hS : ∀ k, S k → T k) (h0 : J [] W) :
    Calls Tryz.prog 169 #[.func (.yield l) #[] #[], .pointer (some ⟨Bm, 0, none⟩)] W fun e W' => (∃ v, e = .returned v) ∧ ((∃ ys, ys = rl.reverse ∧ J ys W') ∨ (∃ pre, pre <+: rl.reverse ∧ Jx pre W')) := by
  obtain ⟨M, hm⟩ : ∃ M, rl.length = M := ⟨_, rfl⟩
  have HJ := hd hJ
  have HY := hd hY
  have HO := hd hO
  have H0 := hd h0
  have HBm := hd hBm
  have HM := hd hm
  obtain ⟨A, c, hb, hr, hSb⟩ := hO
  rw [List.length_map, hm] at hb hr
  rw [hm] at hl
  have cm := hBm.at_ 0 rfl
  have cb := hb.at_ 1 rfl
  have hcap := hr.cap
  unfold maxLen at hcap
  have HCW := hd (Chg.refl (fun k => ¬ T k) W)
  clear hJ hY h0 hBm hm hb hr
  go_enter Tryz.func169, Tryz.ntmps169
  go_wp2_with fail
  go_loopw [3] (fun i wr => ∃ m : Nat, i = .int .i64 ((M : Int) - 1 - (m : Int)) ∧ m ≤ M ∧ Hd (J (rl.reverse.take m) wr) ∧ Hd (Chg (fun k => ¬ T k) W wr)) (fun i _ => (RowKit.intOf i + 1).toNat)
  case atStart => exact ⟨0, by simp, Nat.zero_le _, H0, HCW⟩
  case round =>
    clear HCW cm cb
    obtain ⟨m, rfl, hk, HJk, HCk⟩ := hrel
    have hbm := HBm.o.chg HCk.o (fun h => h TBm)
    obtain ⟨A, c, hb, hr, hSb⟩ := HO.o.chg HCk.o (fun k hk h => h (hS k hk))
    rw [List.length_map, HM.o] at hb hr
    have cm := hbm.at_ 0 rfl
    have cb := hb.at_ 1 rfl
    have hcap := hr.cap
    unfold maxLen at hcap
    by_cases hlt : m < M
    · have hkl : m < rl.reverse.length := by rw [List.length_reverse, HM.o]; exact hlt
      have hkl2 : M - 1 - m < rl.length := by rw [HM.o]; omega
      obtain ⟨p, hp⟩ : ∃ p : Nat, p = M - 1 - m := ⟨_, rfl⟩
      have hpi : (M : Int) - 1 - (m : Int) = (p : Int) := by omega
      have hp0 : (0 : Int) ≤ (p : Int) := by omega
      have hpM : (p : Int) < (M : Int) := by omega
      have hpn : p < M := by omega
      have hkl3 : p < rl.length := by rw [HM.o]; exact hpn
      obtain ⟨g, rfl, _, hgw, _, _, hcl, _⟩ := hr.at_ (by omega)
      obtain ⟨x, hx⟩ : ∃ x, rl[p] = x := ⟨_, rfl⟩
      have hxr : rl.reverse[m] = x := by
        rw [← hx, List.getElem_reverse]
        congr 1
        rw [HM.o]
        omega
      have hcc : ∀ j u, j < 2 → (chEnc x.1)[j]? = some u → wr.cell? ⟨g, p * 2 + j, none⟩ = some u := fun j u hj hv => hcl _ _ ((chsEnc_at (rl.map (·.1)) p (by rw [List.length_map]; exact hkl3) j hj).trans (by rw [List.getElem_map, hx]; exact hv))
      have HT : Hd (rl.reverse.take (m + 1) = rl.reverse.take m ++ [x]) := hd (by rw [List.take_succ_eq_append_getElem hkl, hxr])
      have HLN : Hd ((rl.reverse.take m).length < rl.length) := hd (by have := HM.o; rw [List.length_take, List.length_reverse]; omega)
      have HPRE : Hd ((rl.reverse.take m ++ [x]) <+: rl.reverse) := hd (by rw [← HT.o]; exact List.take_prefix _ _)
      obtain ⟨⟨tk, u⟩, hPx⟩ := x
      have k0 := hcc 0 _ (by omega) rfl
      have k1 := hcc 1 _ (by omega) rfl
      rw [Nat.add_zero] at k0
      have hps : (p : Int) - 1 = (M : Int) - 1 - ((m + 1 : Nat) : Int) := by omega
      have HPS := hd hps
      rw [hpi]
      clear hbm hb hr hcl hx hxr hp hpi hcc hkl hkl2 hkl3 hps
      go_upto_region 3 with (fail)
      go_cut [23] from 10 to 23 (fun s wx => ∃ bb : Bool, s = .bool (!bb) ∧ Hd ((bb = true ∧ J (rl.reverse.take m ++ [⟨(tk, u), hPx⟩]) wx ∧ Chg (fun k => ¬ T k) W wx) ∨ (bb = false ∧ Jx (rl.reverse.take m ++ [⟨(tk, u), hPx⟩]) wx)))
      case first =>
        obtain ⟨fn, tmps, assign, body, hy, hR⟩ := HY.o (rl.reverse.take m) ⟨(tk, u), hPx⟩ wr HJk.o HLN.o
        have HR : Hd (RoundIn Fence.wide n Tryz.prog l fn tmps assign body wr (fun e W' => ∃ bb : Bool, e = .returned (.bool bb) ∧ Hd ((bb = true ∧ J (rl.reverse.take m ++ [⟨(tk, u), hPx⟩]) W' ∧ Chg (fun k => ¬ T k) W W') ∨ (bb = false ∧ Jx (rl.reverse.take m ++ [⟨(tk, u), hPx⟩]) W')))) := hd (hR.mono (fun e W' h => by
          rcases h with ⟨rfl, h1, h2⟩ | ⟨rfl, h1⟩
          · exact ⟨true, rfl, .inl ⟨rfl, h1, HCk.o.trans h2 (fun q hq => .inl hq)⟩⟩
          · exact ⟨false, rfl, .inr ⟨rfl, h1⟩⟩))
        simp only [chEnc] at hy
        clear hR
        refine (wpIn_wide (n := n + 1)).1 ?_
        gi_wp2_with fail
        refine HR.o.mono ?_
        rintro e W' ⟨bb, rfl, hbb⟩
        gi_wp2_with fail
        go_meet
        exact ⟨bb, rfl, hbb⟩
      case rest =>
        obtain ⟨bb, rfl, hbb⟩ := hcut
        cases bb with
        | true =>
          have h1 : Hd (J (rl.reverse.take (m + 1)) wc ∧ Chg (fun k => ¬ T k) W wc) := hd (by
            rw [HT.o]
            rcases hbb.o with ⟨_, h1, h2⟩ | ⟨h, _⟩
            · exact ⟨h1, h2⟩
            · cases h)
          clear hbb
          go_wp2
          go_roundw
          case rel => exact ⟨m + 1, congrArg (Value.int .i64) HPS.o, by omega, h1.o.1, h1.o.2⟩
          case measure => (simp [RowKit.intOf]; try omega)
        | false =>
          have h1 : Hd (Jx (rl.reverse.take m ++ [⟨(tk, u), hPx⟩]) wc) := hd (by
            rcases hbb.o with ⟨h, _⟩ | ⟨_, h1⟩
            · cases h
            · exact h1)
          clear hbb
          go_wp2
          refine bodyPost_ret (results_none rfl _ _ _) rfl ?_
          exact ⟨⟨_, rfl⟩, .inr ⟨_, HPRE.o, h1.o⟩⟩
    · obtain rfl : m = M := by omega
      have HE : Hd (rl.reverse.take m = rl.reverse) := hd (List.take_of_length_le (by rw [List.length_reverse, HM.o]; exact Nat.le_refl _))
      have hpi : (m : Int) - 1 - (m : Int) = -1 := by omega
      rw [hpi]
      clear hbm hb hr hpi
      go_wp2
      go_end0
      exact ⟨⟨_, rfl⟩, .inl ⟨_, HE.o, HJk.o⟩⟩

theorem back_stops (n Bm b : Nat) (T S : Nat → Prop) (cap : Int) (P : Ch → Prop) (rl : List {x : Ch // P x}) (hl : rl.length ≤ 1000000) (w : World) (hBm : Blk w Bm 157 #[.pointer (some ⟨b, 0, none⟩)]) (TBm : T Bm) (hO : RingR w S b cap (rl.map (·.1))) (hS : ∀ k, S k → T k) :
    SeqStopsK Fence.wide (n + 1) Tryz.prog 169 #[.pointer (some ⟨Bm, 0, none⟩)] (fun x : {x : Ch // P x} => #[.agg (chEnc x.1).toArray]) (Chg (fun k => ¬ T k)) (fun ys => ys = rl.reverse) (fun pre => pre <+: rl.reverse) rl.length w :=
  fun l J Jx W hW hJ _ hY h0 => callsIn_wide.2 (back1_calls n l Bm b T S cap P rl hl J Jx hY W hJ (hBm.below hW hBm.lt) TBm (hO.below hW) hS h0)

end Go.Proofs.YtfacfdjapjhpeaaGreatDoor
namespace Go.Proofs.YtfacfdjapjhpeaaGreatDoor
open Go.RowKit

theorem delEntCol_info : (Tryz.prog.info? 220).map (fun i => (i.zero, i.size, i.bytes)) = some (some (.agg #[Value.string ⟨#[]⟩, Value.int IntKind.i64 0, Value.string ⟨#[]⟩]), 3, 40) := by kernel_rfl
theorem delEntCol_zero (w : World) : (zeroValue 220).run Tryz.prog w = .ok (.agg #[Value.string ⟨#[]⟩, Value.int IntKind.i64 0, Value.string ⟨#[]⟩]) w := by kernel_rfl

set_option maxHeartbeats 1600000 in
set_option maxRecDepth 100000 in
theorem delEntCol_calls (w : World) (S : Nat → Prop) (A : Option Addr) (n c i : Nat) (xs : List Value) (hr : Row w S 220 3 A n c xs) (h1 : ∀ u ∈ xs, u.oneCell' = true) (hi : i < n) :
    Calls Tryz.prog 165 #[.slice A n c, .int .i64 i, .int .i64 ((i : Int) + 1)] w fun e w' => e = .returned (.slice A (n - 1) c) ∧ Row w' S 220 3 A (n - 1) c (xs.take (i * 3) ++ xs.drop ((i + 1) * 3)) ∧ Chg S w w' := by
  obtain ⟨i0, hi0, hz0, hz1, hz2⟩ := info_parts delEntCol_info
  have hlen := hr.len
  obtain ⟨g0, hA, _⟩ := hr.at_ (by omega)
  obtain ⟨g, cur, e0, hS, hb, hnc, hcm, hcs, ht⟩ := hr.block hA
  injection e0 with e0
  subst e0
  subst hA
  unfold maxLen at hcm
  obtain ⟨news, hnews⟩ : ∃ news, news = xs.drop ((i + 1) * 3) := ⟨_, rfl⟩
  have hnl : news.length = (n - (i + 1)) * 3 := by rw [hnews, List.length_drop, hlen, Nat.sub_mul]
  have hcell : ∀ j u, xs[j]? = some u → w.cell? ⟨g0, j, none⟩ = some u := by
    intro j u hu
    rw [hb.cell]
    rw [← ht, List.getElem?_take] at hu
    split at hu
    · simpa using hu
    · cases hu
  obtain ⟨A1, hA1, hsrc⟩ : ∃ A1 : Addr, (if c = i + 1 then some (⟨g0, 0, none⟩ : Addr) else some ⟨g0, (i + 1) * 3, none⟩) = some A1 ∧ Hd (∀ j u, news[j]? = some u → w.drew.cell? (A1.add j) = some u) := by
    by_cases h : c = i + 1
    · refine ⟨⟨g0, 0, none⟩, by simp [h], fun j u hu => ?_⟩
      have h0 : news.length = 0 := by rw [hnl]; have : n - (i + 1) = 0 := by omega
                                      rw [this, Nat.zero_mul]
      rw [List.length_eq_zero_iff.1 h0] at hu
      simp at hu
    · refine ⟨⟨g0, (i + 1) * 3, none⟩, by simp [h], fun j u hu => ?_⟩
      rw [hnews, List.getElem?_drop] at hu
      rw [Addr.add_lit]
      exact hcell _ _ hu
  have s1 : Hd (news.length = (n - (i + 1)) * 3) := hnl
  have s2 : Hd (∀ u ∈ news, u.oneCell' = true) := fun u hu => h1 u (List.mem_of_mem_drop (hnews ▸ hu))
  obtain ⟨cur1, hcur1⟩ : ∃ cur1, cur1 = (cur.toList.take (i * 3) ++ news ++ cur.toList.drop (i * 3 + news.length)).toArray := ⟨_, rfl⟩
  have s3 : Hd (i * 3 + news.length ≤ cur.size) := by unfold Hd; rw [hnl, hcs]; omega
  have hbd : Hd (Blk w.drew g0 220 cur) := hb.drew
  obtain ⟨W1, hW1⟩ : ∃ W1, W1 = w.drew.setRow g0 cur1 := ⟨_, rfl⟩
  have hb1 : Blk W1 g0 220 cur1 := by rw [hW1]; exact hb.drew.setRow _
  have hs1 : cur1.size = cur.size := by
    rw [hcur1]; simp only [List.size_toArray, List.length_append, List.length_take, List.length_drop, Array.length_toList]
    have := s3.o; omega
  have hcl : ∀ ty, (Builtin.clear_ #[208] ty #[.slice (some ⟨g0, (i + (n - (i + 1))) * 3, none⟩) (n - (i + (n - (i + 1)))) (c - (i + (n - (i + 1))))]).run Tryz.prog W1 = .ok (.tuple #[]) (W1.setRow g0 (cur1.toList.take ((i + (n - (i + 1))) * 3) ++ [Value.string ⟨#[]⟩, Value.int IntKind.i64 0, Value.string ⟨#[]⟩] ++ cur1.toList.drop ((i + (n - (i + 1))) * 3 + 3)).toArray) := by
    intro ty
    have e1 : n - (i + (n - (i + 1))) = 1 := by omega
    rw [e1]
    have hz1 : ∀ v ∈ ([Value.string ⟨#[]⟩, Value.int IntKind.i64 0, Value.string ⟨#[]⟩] : List Value), v.oneCell' = true := by decide
    have hfit : (i + (n - (i + 1))) * 3 + ([Value.string ⟨#[]⟩, Value.int IntKind.i64 0, Value.string ⟨#[]⟩] : List Value).length ≤ cur1.size := by rw [hs1, hcs]; simp only [List.length_cons, List.length_nil]; omega
    exact run_clear_one W1 208 220 ty (.agg #[Value.string ⟨#[]⟩, Value.int IntKind.i64 0, Value.string ⟨#[]⟩]) [Value.string ⟨#[]⟩, Value.int IntKind.i64 0, Value.string ⟨#[]⟩] Tryz.underlying208 delEntCol_zero rfl (by decide) hz1 g0 _ _ cur1 hb1 hfit
  have X := hd hW1
  have Y := hd hcur1
  have hic : i ≤ c := by omega
  have hwr : IntKind.i64.wrap ((i : Int) + 1) = (i : Int) + 1 := by rw [IntKind.wrap_i64]; omega
  have hp0 : (0 : Int) ≤ (i : Int) + 1 := by omega
  have hp1 : (i : Int) + 1 ≤ (n : Int) := by omega
  have hp2 : ((i : Int) + 1).toNat = i + 1 := by omega
  have hp3 : ((i : Int) == (i : Int) + 1) = false := by simp; omega
  have Z := hd hb1
  have hnn := hd hnews
  clear hW1 hcur1 hb1 hnews hnl hcell hb h1 hr
  have HT := hd ht
  have HL := hd hlen
  have HS := hd hs1
  have HC := hd hcs
  clear ht hlen hs1 hcs
  go_enter Tryz.func165, Tryz.ntmps165
  go_wp2_with fail
  go_region_law (refine step_append_row rfl (.tmp 22) (.tmp 25) 208 rfl 220 i0 3 Tryz.underlying208 hi0 hz1 g0 i c cur hbd.o (by simp [Act.eval, Act.put]) A1 (n - (i + 1)) (c - (i + 1)) news (by simp [Act.eval, Act.put]) s1.o hsrc.o s2.o (by omega) s3.o ?_; rw [← Y.o, ← X.o])
  go_wp2
  go_ret
  have e1 : i + (n - (i + 1)) = n - 1 := by omega
  have hs1 := s1.o
  have hs3 := s3.o
  have hT := HT.o
  have hL := HL.o
  have hS1 := HS.o
  have hC := HC.o
  refine ⟨ret_val (a := .slice (some ⟨g0, 0, none⟩) (i + (n - (i + 1))) c) (by rw [e1]), ?_, ?_⟩
  · refine Row.of_block (Z.o.setRow _) hS (by omega) (by unfold maxLen; omega) ?_ ?_ ?_
    · simp only [List.size_toArray, List.length_append, List.length_take, List.length_drop, Array.length_toList, List.length_cons, List.length_nil]
      rw [hS1, hC]; omega
    · rw [e1, Y.o]
      have hd := del_list cur.toList xs news [Value.string ⟨#[]⟩, Value.int IntKind.i64 0, Value.string ⟨#[]⟩] (i * 3) 3 ((n - 1) * 3) (by rw [← hT]; congr 1; omega) (by rw [Array.length_toList, hC]; omega) (by omega) (by rw [hnn.o]; congr 1; omega)
      rw [show (i + 1) * 3 = i * 3 + 3 by omega]
      simp only [List.append_assoc, List.cons_append, List.nil_append, List.length_cons, List.length_nil, Nat.zero_add, Nat.reduceAdd] at hd ⊢
      exact hd
    · simp only [List.length_append, List.length_take, List.length_drop]
      rw [hL]; omega
  · rw [X.o]
    exact ((Chg.refl _ _).drew.setRow (.inl hS) _).setRow (.inl hS) _

end Go.Proofs.YtfacfdjapjhpeaaGreatDoor
namespace Go.Proofs.YtfacfdjapjhpeaaGreatDoor
open Go.RowKit Go.Lib

theorem omdelEntCol_calls (w : World) (S : Nat → Prop) (b : Nat) (l : ML Ce) (k : List UInt8) (h : OmEntCol w S b l) (hl : l.length ≤ 1000000) :
    Calls Tryz.prog 144 #[.pointer (some ⟨b, 0, none⟩), .string (bs k)] w fun e w' => e = .returned (.bool (hasM l k)) ∧ OmEntCol w' (Plus S w.heap.size) b (delM l k) ∧ Chg S w w' := by
  have hc := hd (findEntCol_calls w S b l k h hl)
  have hsp := hd (delM_spec k h.rise)
  cases hq : hasM l k with
  | false =>
    have e : delM l k = l := by simp [delM, hq]
    rw [hq] at hc
    rw [e]
    have H := hd h
    generalize place l k = p at *
    clear h hsp hq e
    go_enter Tryz.func144, Tryz.ntmps144
    go_wp2_with fail
    refine hc.o.mono ?_
    rintro e w1 ⟨rfl, hbe⟩
    go_wp2_with fail
    go_ret
    exact ⟨rfl, (H.o.below hbe).mono (fun _ h => .inl h), Chg.of_below _ hbe⟩
  | true =>
    obtain ⟨hp, hpk, _⟩ := hasM_at h.rise hq
    have e : delM l k = l.eraseIdx (place l k) := by simp [delM, hq]
    rw [hq] at hc
    rw [e] at hsp ⊢
    have H := hd h
    obtain ⟨p, hpp⟩ : ∃ p, place l k = p := ⟨_, rfl⟩
    rw [hpp] at hp hc hsp ⊢
    clear h hq e hpk hpp
    obtain ⟨n, hn⟩ : ∃ n, l.length = n := ⟨_, rfl⟩
    have HN := hd hn
    have hpn : p < n := by omega
    have hl' : n ≤ 1000000 := by omega
    clear hn hp hl
    go_enter Tryz.func144, Tryz.ntmps144
    go_wp2_with fail
    refine hc.o.mono ?_
    rintro e w1 ⟨rfl, hbe⟩
    obtain ⟨A, c, hb, hr, hS, _⟩ := H.o.below hbe
    rw [HN.o] at hb hr
    have hb0 := hb.at_ 0 rfl
    have hne := hr.ne_blk hb (by decide)
    have hB := hd hb
    clear hb
    have hwr : IntKind.i64.wrap ((p : Int) + 1) = (p : Int) + 1 := by rw [IntKind.wrap_i64]; omega
    go_wp2_with fail
    refine (delEntCol_calls w1 (Of A) A n c p (meEntCol l) hr.own_ (meEntCol_one l) hpn).mono ?_
    rintro e w2 ⟨rfl, hr2, hc2⟩
    have hb2 : Blk w2 b 210 #[.slice A n c] := hB.o.chg hc2 (fun hk => by
      cases A with
      | none => exact Of.none hk
      | some a => exact hne a rfl hk.some_.symm)
    have h1 := hb2.at_ 0 rfl
    have hf := hb2.frozen 0
    have HB2 := hd hb2
    clear hb2
    go_wp2
    go_ret
    have hlen : (l.eraseIdx p).length = n - 1 := by rw [List.length_eraseIdx, if_pos (by rw [HN.o]; exact hpn), HN.o]
    refine ⟨rfl, ⟨A, c, ?_, ?_, .inl hS, hsp.o.1⟩, ?_⟩
    · rw [hlen]; exact HB2.o.set_ 0 _
    · rw [hlen, meEntCol_erase]
      exact (hr2.far hne _).mono (fun q hq => .inl (hr.of_sub q hq))
    · exact (((Chg.refl S w).then_below hbe).trans hc2 (fun q hq => .inl (hr.of_sub q hq))).setCell (.inl hS) _

end Go.Proofs.YtfacfdjapjhpeaaGreatDoor
