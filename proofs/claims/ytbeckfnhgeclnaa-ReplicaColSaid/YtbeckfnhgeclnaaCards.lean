/-
  The copy's cards, in order.
-/
import Derived.Test.YtbeckfnhgeclnaaOmKEntItem
import Derived.Test.YtbeckfnhgeclnaaOmIEntItem
set_option linter.unusedVariables false
set_option linter.unusedSimpArgs false
namespace Go.Proofs.Ytbeckfnhgeclnaa
open Go.RowKit Go.Lib

def itsEnc (l : List It) : List Value := l.flatMap itEnc
theorem itEnc_len (x : It) : (itEnc x).length = 4 := rfl
theorem itEnc_one (x : It) : ∀ u ∈ itEnc x, u.oneCell' = true := by
  intro u hu
  simp [itEnc] at hu
  rcases hu with rfl | rfl | rfl | rfl <;> rfl
theorem itInfo : (Try.prog.info? 41).map (fun i => (i.zero, i.size, i.bytes)) = some (some (.agg #[.string ⟨#[]⟩, .int .i64 0, .bool false, .string ⟨#[]⟩]), 4, 48) := by kernel_rfl

/-- A copy at block b: its cards, its token, whether there is more. -/
def Rep (w : World) (S : Nat → Prop) (b : Nat) (token : Int) (more : Bool) (ml : ML It) : Prop :=
  ∃ mb, Blk w b 89 #[.pointer (some ⟨mb, 0, none⟩), .int .i64 token, .bool more] ∧ OmEntItem w S mb ml ∧ S b

attribute [local go_sem] Oper.semAt_some

set_option maxRecDepth 100000 in
set_option maxHeartbeats 4000000 in
theorem cards_calls (w : World) (S : Nat → Prop) (b : Nat) (token : Int) (more : Bool) (ml : ML It) (h : Rep w S b token more ml) (hl : ml.length ≤ 1000000) :
    Calls Try.prog 27 #[.pointer (some ⟨b, 0, none⟩)] w fun e W' => ∃ A c, e = .returned (.slice A ml.length c) ∧ Row W' (From w.heap.size) 41 4 A ml.length c (itsEnc (ml.map (·.2))) ∧ Below w.heap.size w W' := by
  obtain ⟨mb, hb, hO, hSb⟩ := h
  obtain ⟨i0, hi, hz0, hz1, hz2⟩ := info_parts itInfo
  have hb0 := hb.at_ 0 rfl
  have hbl := hb.lt
  refine (callsIn_wide (n := 5)).1 (callsIn_of_wp_marks Try.func27 rfl trivial ((wpIn_wide (n := 5)).2 ?_))
  simp only [Try.ntmps27, List.size_toArray, List.length_cons, List.length_nil, Nat.reduceAdd, Nat.reduceSub, Array.replicate_succ, Array.replicate_zero, List.push_toArray, List.append_toArray, List.nil_append, List.cons_append]
  go_wp2_with fail
  refine (omallEntItem_calls _ mb).mono ?_
  rintro e w' ⟨rfl, rfl⟩
  go_wp2_with fail
  have bO : Blk (((w.alloc (.cells #[.slice none 0 0] 28)).alloc (.cells #[.pointer (some ⟨mb, 0, none⟩)] 86)).alloc (.cells #[.string ⟨#[]⟩] 9)) w.heap.size 28 #[.slice none 0 0] := ((Blk.new w 28 _).alloc _).alloc _
  have bM : Blk (((w.alloc (.cells #[.slice none 0 0] 28)).alloc (.cells #[.pointer (some ⟨mb, 0, none⟩)] 86)).alloc (.cells #[.string ⟨#[]⟩] 9)) (w.heap.size + 1) 86 #[.pointer (some ⟨mb, 0, none⟩)] := (Blk.new_ _ _ (by simp) _ _).alloc _
  have bP : Blk (((w.alloc (.cells #[.slice none 0 0] 28)).alloc (.cells #[.pointer (some ⟨mb, 0, none⟩)] 86)).alloc (.cells #[.string ⟨#[]⟩] 9)) (w.heap.size + 1 + 1) 9 #[.string ⟨#[]⟩] := Blk.new_ _ _ (by simp) _ _
  have hB0 : Below w.heap.size w (((w.alloc (.cells #[.slice none 0 0] 28)).alloc (.cells #[.pointer (some ⟨mb, 0, none⟩)] 86)).alloc (.cells #[.string ⟨#[]⟩] 9)) := (((Below.refl _ w).alloc (Nat.le_refl _) _).alloc (by simp) _).alloc (by simp; omega) _
  have hsz : (((w.alloc (.cells #[.slice none 0 0] 28)).alloc (.cells #[.pointer (some ⟨mb, 0, none⟩)] 86)).alloc (.cells #[.string ⟨#[]⟩] 9)).heap.size = w.heap.size + 3 := by simp
  obtain ⟨W0, hW0⟩ : ∃ W0, ((w.alloc (.cells #[.slice none 0 0] 28)).alloc (.cells #[.pointer (some ⟨mb, 0, none⟩)] 86)).alloc (.cells #[.string ⟨#[]⟩] 9) = W0 := ⟨_, rfl⟩
  rw [hW0] at bO bM bP hB0 hsz ⊢
  clear hW0
  have hT : ∀ k, (k < w.heap.size ∨ k = w.heap.size + 1 ∨ k = w.heap.size + 1 + 1) → k < W0.heap.size := fun k hk => by omega
  have HI := hd hi
  have HL := hd hl
  clear hi hb hb0
  refine (wpIn_wide (n := 5)).1 ?_
  refine wpIn_rangeFunc_ownH rfl (by omega) (gf := 103) (lb := #[.pointer (some ⟨w.heap.size + 1, 0, none⟩), .pointer (some ⟨w.heap.size + 1 + 1, 0, none⟩)]) rfl trivial (enters_of Try.func103 (by kernel_rfl) rfl)
    (omallEntItem_stops 3 (w.heap.size + 1) (w.heap.size + 1 + 1) mb (fun k => k < w.heap.size ∨ k = w.heap.size + 1 ∨ k = w.heap.size + 1 + 1) (fun k => S k ∧ k < w.heap.size) ml hl W0 bM bP (.inr (.inl rfl)) (.inr (.inr rfl)) (hO.shrink.below hB0) (fun k hk => .inl hk.2)) chgK_t (chgK_b hT) (Below.refl _ _) (fun _ => rfl)
    (fun pre W => (∃ A c, Blk W w.heap.size 28 #[.slice A pre.length c] ∧ Row W (From W0.heap.size) 41 4 A pre.length c (itsEnc (pre.map (·.2)))) ∧ Below w.heap.size w W ∧ W0.heap.size ≤ W.heap.size)
    (fun _ _ _ => False)
    (fun pre X Y row hs hg hr => by
      obtain ⟨⟨A, c, h1, h2⟩, h3, h4⟩ := hs
      exact ⟨⟨A, c, blk_own h1 hg hr, row_own h2 hg hr⟩, below_own h3 (Nat.le_refl _) (by omega) hg hr, Nat.le_trans h4 hg.size⟩)
    (fun _ _ _ _ _ hs _ _ => hs)
    ⟨⟨none, 0, bO, Row.nil _ _ _ _⟩, hB0, Nat.le_refl _⟩
    (fun x a' W => ∃ Bx, W0.heap.size ≤ Bx ∧ Blk W Bx 41 (itEnc x.2).toArray ∧ a' = { tmps := #[.pointer (some ⟨b, 0, none⟩), undef, .slice none 0 0, .pointer (some ⟨w.heap.size, 0, none⟩), undef, .pointer (some ⟨Bx, 0, none⟩), .pointer (some ⟨b, 0, none⟩), .pointer (some ⟨b, 0, none⟩), .pointer (some ⟨b, 0, none⟩), .pointer (some ⟨mb, 0, none⟩), .func (.func 103) #[] #[.pointer (some ⟨w.heap.size + 1, 0, none⟩), .pointer (some ⟨w.heap.size + 1 + 1, 0, none⟩)], .string (bs x.1), .agg (itEnc x.2).toArray, undef, undef, undef, undef, undef], defers := [] })
    (fun x a' _ X Y row hs hg hr => by
      obtain ⟨Bx, h1, h2, h3⟩ := hs
      exact ⟨Bx, h1, blk_own h2 hg hr, h3⟩)
    ?assign ?body ?done ?stop
  case assign =>
    rintro l pre ⟨key, uid, ver, gone, card⟩ W K ⟨⟨A, c, h1, h2⟩, h3, h4⟩ hK
    simp only [itEnc]
    gi_wp2
    exact hK _ _ ((KeepsOthers.alloc _ _).from _) ((Chg.refl _ _).alloc _) ⟨⟨A, c, h1.alloc _, h2.alloc _⟩, h3.alloc h3.size _, by simp; omega⟩ ⟨W.heap.size, h4, Blk.new W 41 _, rfl⟩
  case body =>
    rintro l pre ⟨key, uid, ver, gone, card⟩ a' W hl2 ⟨r, hr⟩ ⟨⟨A, c, hO1, hR1⟩, hB1, hs1⟩ ⟨Bx, hBx, bX, rfl⟩ hlt
    simp only [itEnc] at bX ⊢
    have c0 := hO1.at_ 0 rfl
    have hOl := hO1.lt
    have hXl := bX.lt
    have x0 := bX.at_ 0 rfl
    have x1 := bX.at_ 1 rfl
    have x2 := bX.at_ 2 rfl
    have x3 := bX.at_ 3 rfl
    have hpl : pre.length < 1000000 := by have := HL.o; omega
    have hfar : Hd (¬ Of A w.heap.size) := hd (fun hk => by
      have h1 : W0.heap.size ≤ w.heap.size := hR1.of_sub _ hk
      omega)
    have HB1 := hd hB1
    have HR1 := hd hR1
    have HO1 := hd hO1
    have HX := hd bX
    clear hR1 hO1 bX hB1
    gi_wp2_with (gi_at_builtin; refine wpListIn_append_row rfl _ _ 28 rfl (Of A) 41 i0 (.agg #[.string ⟨#[]⟩, .int .i64 0, .bool false, .string ⟨#[]⟩]) 4 48 Try.underlying28 HI.o hz0 hz1 hz2 rfl A pre.length c (itsEnc (pre.map (·.2))) rfl (HR1.o.own_.alloc _) ⟨W.heap.size, 0, none⟩ 1 1 [.string (bs uid), .int .i64 ver, .bool gone, .string (bs card)] rfl rfl (cells_at (Blk.new_ _ _ rfl _ _) rfl) (itEnc_one ⟨uid, ver, gone, card⟩) (by omega) (by unfold maxLen; omega) (by omega) ?_; intro A2 c2 w2 hown2 hchg2; have hb2 := (HO1.o.alloc _).chg hchg2 hfar.o; have q1 := hb2.at_ 0 rfl; have q2 := hb2.frozen 0; have HB2 := hd hb2; have HW2 := hd hown2; have HC2 := hd hchg2; clear hb2 hown2 hchg2)
    have HC : Chg (fun k => Of A k ∨ k = w.heap.size) W (w2.setCell ⟨w.heap.size, 0, none⟩ (.slice A2 (pre.length + 1) c2)) := (((Chg.refl _ W).alloc _).trans HC2.o (fun q hq => .inl (.inl hq))).setCell (.inl (.inr rfl)) _
    have e1 : (pre ++ [(key, (⟨uid, ver, gone, card⟩ : It))]).length = pre.length + 1 := by simp
    have e2 : itsEnc ((pre ++ [(key, (⟨uid, ver, gone, card⟩ : It))]).map (·.2)) = itsEnc (pre.map (·.2)) ++ [.string (bs uid), .int .i64 ver, .bool gone, .string (bs card)] := by simp [itsEnc, itEnc]
    refine ⟨kf_of_chg HC (fun k o hk ho => ?_), HC.mono (fun k hk ht => ?_), ⟨A2, c2, ?_, ?_⟩, ?_, ?_⟩
    · rcases hk with hk | rfl
      · exact of_cells HR1.o k o hk ho
      · exact blk_cells HO1.o o ho
    · rcases hk with hk | rfl
      · have : W0.heap.size ≤ k := HR1.o.of_sub _ hk
        omega
      · omega
    · rw [e1]; exact HB2.o.set_ 0 _
    · rw [e1, e2]
      refine (HW2.o.mono fun q hq => ?_).far (HW2.o.ne_blk HB2.o (by decide)) _
      rcases hq with hq | hq
      · exact HR1.o.of_sub q hq
      · simp at hq
        show W0.heap.size ≤ q
        omega
    · refine HB1.o.trans (HC.below (fun k hk => ?_) HB1.o.size)
      rcases hk with hk | rfl
      · have : W0.heap.size ≤ k := HR1.o.of_sub _ hk
        omega
      · exact Nat.le_refl _
    · exact Nat.le_trans hs1 HC.size
  case done =>
    rintro D ys W hD rfl ⟨⟨A, c, hO1, hR1⟩, hB1, hs1⟩ hK
    have c0 := hO1.at_ 0 rfl
    have HR1 := hd hR1
    have HB1 := hd hB1
    have HK := hd hK
    have HD := hd hD
    clear hR1 hO1 hB1
    go_wp2
    refine ⟨by simp, .inl ⟨_, _, rfl, run_takeDeferred HK.o, ?_⟩⟩
    obtain ⟨g1, g2⟩ := put_own (o' := .deferred none) HK.o rfl
    refine ⟨_, results_tmp rfl _ _ _, A, c, rfl, (row_own HR1.o g1 g2).mono (fun k hk => ?_), below_own HB1.o (Nat.le_refl _) (by have := HD.o; omega) g1 g2⟩
    have : W0.heap.size ≤ k := hk
    show w.heap.size ≤ k
    omega
  case stop =>
    rintro D c pre W _ _ h _
    exact h.elim

end Go.Proofs.Ytbeckfnhgeclnaa
