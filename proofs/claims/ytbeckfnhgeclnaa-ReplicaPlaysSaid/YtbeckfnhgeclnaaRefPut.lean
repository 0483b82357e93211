/-
  The reference's put.
-/
import Derived.Test.YtbeckfnhgeclnaaRefP
import Derived.Test.YtbeckfnhgeclnaaCards
import Derived.Test.YtbeckfnhgeclnaaRowLaw
import Derived.BigQuiet
import Derived.Laws.Cover1
namespace Go.Proofs.Ytbeckfnhgeclnaa
open Go.RowKit Go.Lib

theorem balR {B : Nat} {a w : World} (h : Below B a w) (hB : B = a.heap.size) (o : Obj) : Below B a (w.alloc o) := h.alloc (by rw [hB]; subst hB; exact h.size) o
theorem str_eq (a b : List UInt8) : ((bs a).toList == (bs b).toList) = decide (a = b) := by
  rw [toList_data, toList_data]
  show (a == b) = _
  by_cases h : a = b <;> simp [h]
theorem str_less (a b : List UInt8) : Op.bytesLess (bs a).toList (bs b).toList = !(geqT a b) := by
  have := geq_str a b
  cases h : Op.bytesLess (bs a).toList (bs b).toList <;> simp [h] at this <;> simp [this]

/-- put's memory: the box of what is put, and the row that it makes. -/
structure PutM (w wr : World) (x : It) (E : Option Addr) (ec : Nat) (out : List It) : Prop where
  row : Row wr (From (w.heap.size + 1)) 41 4 E out.length ec (itsEnc out)
  below : Below w.heap.size w wr
  box : Blk wr w.heap.size 41 (itEnc x).toArray
theorem PutM.drewN {w wr : World} {x : It} {E : Option Addr} {ec : Nat} {out : List It} (h : PutM w wr x E ec out) (q : Nat) : PutM w (wr.drewN q) x E ec out := ⟨h.row.drewN q, bdrewN h.below q, h.box.drewN q⟩
theorem PutM.app {w wr W w2 : World} {x y : It} {E E2 : Option Addr} {ec c2 : Nat} {out : List It} (h : PutM w wr x E ec out) {m : Nat} (hm : out.length = m) (hW : Below wr.heap.size wr W) (h1 : Row w2 (Plus (Of E) W.heap.size) 41 4 E2 (m + 1) c2 (itsEnc out ++ itEnc y)) (h2 : Chg (Of E) W w2) : PutM w w2 x E2 c2 (out ++ [y]) := by
  subst hm
  have hb := h.box.lt
  have hs := hW.size
  have hE : ∀ q, Of E q → w.heap.size + 1 ≤ q := fun q hq => h.row.of_sub q hq
  refine ⟨?_, ?_, ?_⟩
  · rw [List.length_append, show itsEnc (out ++ [y]) = itsEnc out ++ itEnc y by simp [itsEnc]]
    refine h1.mono fun q hq => ?_
    show w.heap.size + 1 ≤ q
    rcases hq with hq | hq
    · exact hE q hq
    · omega
  · have h3 := h.below.trans (hW.mono h.below.size)
    exact h3.trans (h2.below (fun q hq => by have := hE q hq; omega) h3.size)
  · exact (h.box.below hW hb).chg h2 (fun hq => by have := hE _ hq; omega)
theorem PutM.cells {w wr : World} {x : It} {E : Option Addr} {ec : Nat} {out : List It} (h : PutM w wr x E ec out) : wr.cell? ⟨w.heap.size, 0, none⟩ = some (.string (bs x.uid)) ∧ wr.cell? ⟨w.heap.size, 1, none⟩ = some (.int .i64 x.ver) ∧ wr.cell? ⟨w.heap.size, 2, none⟩ = some (.bool x.gone) ∧ wr.cell? ⟨w.heap.size, 3, none⟩ = some (.string (bs x.card)) :=
  ⟨h.box.at_ 0 rfl, h.box.at_ 1 rfl, h.box.at_ 2 rfl, h.box.at_ 3 rfl⟩

theorem len48 {a : Nat} (h : a ≤ 1000000) : ((a + 1) * 48 ≤ 140737488355328 ∧ a + 1 ≤ maxLen) ∧ (a + 1 + 1) * 48 ≤ 140737488355328 ∧ a + 1 + 1 ≤ maxLen := by
  unfold maxLen
  omega

set_option maxRecDepth 100000 in
set_option maxHeartbeats 8000000 in
theorem put_calls (w : World) (A : Option Addr) (c : Nat) (l : List It) (x : It) (hr : Rds w A l.length 4 (itsEnc l)) (hl : l.length < 1000000) :
    Calls Try.prog 60 #[.slice A l.length c, .agg (itEnc x).toArray] w fun e w' => ∃ A' c', e = .returned (.slice A' (rput x l).length c') ∧ Row w' (From w.heap.size) 41 4 A' (rput x l).length c' (itsEnc (rput x l)) ∧ Below w.heap.size w w' := by
  obtain ⟨i0, hi, hz0, hz1, hz2⟩ := info_parts itInfo
  have HR := hd hr
  obtain ⟨rl, hrl⟩ : ∃ r, rput x l = r := ⟨_, rfl⟩
  have HRL := hd hrl
  rw [hrl]
  have LR := hd (rput_len x l)
  have Z := hd (putAt_zero x l)
  have ST := hd (fun k done out (h : PutAt x l k done out) => h)
  have SLOW := hd (fun k out y (h : PutAt x l k false out) (hk : k < l.length) (hy : l[k] = y) (hg : geqT y.uid x.uid = false) => putAt_low h hk hy hg)
  have SREST := hd (fun k out y (h : PutAt x l k true out) (hk : k < l.length) (hy : l[k] = y) => putAt_rest h hk hy)
  have SHERE := hd (fun k out y (h : PutAt x l k false out) (hk : k < l.length) (hy : l[k] = y) (hg : geqT y.uid x.uid = true) => putAt_here h hk hy hg)
  have SEND := hd (fun done out (h : PutAt x l l.length done out) => putAt_end h)
  rw [hrl] at SEND LR
  obtain ⟨n, hn⟩ : ∃ n, l.length = n := ⟨_, rfl⟩
  have HN := hd hn
  rw [hn] at hl LR ⊢
  clear hr hn hrl
  obtain ⟨xu, xv, xg, xc⟩ := x
  simp only [itEnc]
  go_enter Try.func60, Try.ntmps60
  go_wp2_with fail
  go_loopw [5, 6, 7] (fun s5 s6 s7 wr => ∃ (k : Nat) (done : Bool) (E : Option Addr) (ec : Nat) (out : List It), s7 = .int .i64 k ∧ s6 = .bool done ∧ s5 = .slice E out.length ec ∧ k ≤ n ∧ Hd (PutM w wr ⟨xu, xv, xg, xc⟩ E ec out) ∧ Hd (PutAt ⟨xu, xv, xg, xc⟩ l k done out)) (fun _ _ s7 _ => n - (intOf s7).toNat)
  case atStart => exact ⟨0, false, none, 0, [], rfl, rfl, rfl, Nat.zero_le _, hd ⟨Row.nil _ _ _ _, (Below.refl _ w).alloc (Nat.le_refl _) _, Blk.new w _ _⟩, Z⟩
  case round =>
    obtain ⟨k, done, E, ec, out, rfl, rfl, rfl, hk, HM, HP⟩ := hrel
    have hki : (0 : Int) ≤ (k : Int) := by omega
    have HLEN : Hd (out.length ≤ k + 1) := hd HP.o.2.1
    have HL6 := hd (len48 (a := out.length) (by have := HLEN.o; omega))
    by_cases hlt : k < n
    · have hlti : (k : Int) < (n : Int) := by omega
      have hkl : k < l.length := by rw [HN.o]; exact hlt
      obtain ⟨g, o, rfl, hg, hc⟩ := HR.o.at_ (by omega)
      obtain ⟨y, hy⟩ : ∃ y, l[k]'hkl = y := ⟨_, rfl⟩
      have HY := hd hy
      have HCELL := hd (fun (w' : World) (hb : Below w.heap.size w w') (j : Nat) (u : Value) (hj : j < 4) (hv : (itEnc y)[j]? = some u) => (hb.cell (p := ⟨g, o + (k * 4 + j), none⟩) hg).trans (hc _ _ ((flat_at itEnc 4 itEnc_len l k hkl j hj).trans (by rw [hy]; exact hv))))
      have HKL := hd hkl
      obtain ⟨yu, yv, yg, yc⟩ := y
      have y0 := HCELL.o wr HM.o.below 0 _ (by omega) rfl
      have y1 := HCELL.o wr HM.o.below 1 _ (by omega) rfl
      have y2 := HCELL.o wr HM.o.below 2 _ (by omega) rfl
      have y3 := HCELL.o wr HM.o.below 3 _ (by omega) rfl
      rw [← Nat.add_assoc] at y0 y1 y2 y3
      rw [Nat.add_zero] at y0
      obtain ⟨x0, x1, x2, x3⟩ := HM.o.cells
      simp only at x0 x1 x2 x3
      clear hc hy
      simp only at y0 y1 y2 y3
      cases done with
      | true =>
        have HN1 := hd (SREST.o k out _ HP.o HKL.o HY.o)
        have HR1 := hd (fun (q : Nat) => ((HM.o.row.own_.drewN q).alloc _ : Row ((wr.drewN q).alloc (.cells #[.string (bs yu), .int .i64 yv, .bool yg, .string (bs yc)] 41)) (Of E) 41 4 E (out).length ec (itsEnc (out))))
        have HW1 := hd (fun (q : Nat) => cells_at (l := [.string (bs yu), .int .i64 yv, .bool yg, .string (bs yc)]) (Blk.new_ (wr.drewN q) wr.heap.size rfl 41 #[.string (bs yu), .int .i64 yv, .bool yg, .string (bs yc)]) rfl)
        have HB1 := hd (fun (q : Nat) => (balR (bdrewN (Below.refl _ _) q) rfl _ : Below wr.heap.size wr ((wr.drewN q).alloc (.cells #[.string (bs yu), .int .i64 yv, .bool yg, .string (bs yc)] 41))))
        have HO1 := hd (itEnc_one ⟨yu, yv, yg, yc⟩)
        have hml1 := HL6.o.1.2
        have hmb1 := HL6.o.1.1
        go_wp2_with fail
        go_quiet (fail)
        go_wp2_with (at_builtin; refine wpList_append_row rfl (.tmp 41) (.tmp 46) 28 rfl (Of E) 41 i0 (.agg #[.string ⟨#[]⟩, .int .i64 0, .bool false, .string ⟨#[]⟩]) 4 48 Try.underlying28 hi hz0 hz1 hz2 rfl E (out).length ec (itsEnc (out)) rfl (HR1.o _) ⟨wr.heap.size, 0, none⟩ 1 1 [.string (bs yu), .int .i64 yv, .bool yg, .string (bs yc)] rfl rfl (HW1.o _) HO1.o (by omega) hml1 hmb1 ?_; intro M3A M3c M3w M3h M3g; have M3 := hd (PutM.app HM.o (y := ⟨yu, yv, yg, yc⟩) rfl (HB1.o _) M3h M3g); clear M3h M3g)
        go_roundw
        case rel => exact ⟨k + 1, true, _, _, out ++ [(⟨yu, yv, yg, yc⟩ : It)], by go_num, rfl, by simp only [List.length_append, List.length_cons, List.length_nil], by omega, M3, HN1⟩
        case measure => simp [intOf]; omega
      | false =>
        have hls := str_less yu xu
        have heq := str_eq yu xu
        cases hgq : geqT yu xu with
        | false =>
          have HN1 := hd (SLOW.o k out _ HP.o HKL.o HY.o hgq)
          rw [hgq] at hls
          simp only [Bool.not_true, Bool.not_false] at hls
          clear hgq heq
          have HR1 := hd (fun (q : Nat) => ((HM.o.row.own_.drewN q).alloc _ : Row ((wr.drewN q).alloc (.cells #[.string (bs yu), .int .i64 yv, .bool yg, .string (bs yc)] 41)) (Of E) 41 4 E (out).length ec (itsEnc (out))))
          have HW1 := hd (fun (q : Nat) => cells_at (l := [.string (bs yu), .int .i64 yv, .bool yg, .string (bs yc)]) (Blk.new_ (wr.drewN q) wr.heap.size rfl 41 #[.string (bs yu), .int .i64 yv, .bool yg, .string (bs yc)]) rfl)
          have HB1 := hd (fun (q : Nat) => (balR (bdrewN (Below.refl _ _) q) rfl _ : Below wr.heap.size wr ((wr.drewN q).alloc (.cells #[.string (bs yu), .int .i64 yv, .bool yg, .string (bs yc)] 41))))
          have HO1 := hd (itEnc_one ⟨yu, yv, yg, yc⟩)
          have hml1 := HL6.o.1.2
          have hmb1 := HL6.o.1.1
          go_wp2_with fail
          go_quiet (fail)
          go_wp2_with (at_builtin; refine wpList_append_row rfl (.tmp 41) (.tmp 46) 28 rfl (Of E) 41 i0 (.agg #[.string ⟨#[]⟩, .int .i64 0, .bool false, .string ⟨#[]⟩]) 4 48 Try.underlying28 hi hz0 hz1 hz2 rfl E (out).length ec (itsEnc (out)) rfl (HR1.o _) ⟨wr.heap.size, 0, none⟩ 1 1 [.string (bs yu), .int .i64 yv, .bool yg, .string (bs yc)] rfl rfl (HW1.o _) HO1.o (by omega) hml1 hmb1 ?_; intro M3A M3c M3w M3h M3g; have M3 := hd (PutM.app HM.o (y := ⟨yu, yv, yg, yc⟩) rfl (HB1.o _) M3h M3g); clear M3h M3g)
          go_roundw
          case rel => exact ⟨k + 1, false, _, _, out ++ [(⟨yu, yv, yg, yc⟩ : It)], by go_num, rfl, by simp only [List.length_append, List.length_cons, List.length_nil], by omega, M3, HN1⟩
          case measure => simp [intOf]; omega
        | true =>
          have HN1 := hd (SHERE.o k out _ HP.o HKL.o HY.o hgq)
          rw [hgq] at hls
          simp only [Bool.not_true, Bool.not_false] at hls
          clear hgq
          obtain ⟨be, hbe⟩ : ∃ b : Bool, decide (yu = xu) = b := ⟨_, rfl⟩
          rw [hbe] at heq
          have HBE := hd hbe
          clear hbe
          cases xg with
          | true =>
            cases be with
            | true =>
              have HE : Hd (yu = xu) := hd (by simpa using HBE.o)
              have HN2 := hd (by have := HN1.o; rw [if_pos HE.o] at this; simpa using this)
              go_wp2_with fail
              go_quiet (fail)
              go_wp2_with fail
              go_quiet (fail)
              go_wp2
              go_roundw
              case rel => exact ⟨k + 1, true, _, _, out, by go_num, rfl, rfl, by omega, hd (HM.o.drewN _), HN2⟩
              case measure => simp [intOf]; omega
            | false =>
              have HE : Hd (¬ yu = xu) := hd (by simpa using HBE.o)
              have HN2 := hd (by have := HN1.o; rw [if_neg HE.o] at this; simpa using this)
              have HR1 := hd (fun (q : Nat) => ((HM.o.row.own_.drewN q).alloc _ : Row ((wr.drewN q).alloc (.cells #[.string (bs yu), .int .i64 yv, .bool yg, .string (bs yc)] 41)) (Of E) 41 4 E (out).length ec (itsEnc (out))))
              have HW1 := hd (fun (q : Nat) => cells_at (l := [.string (bs yu), .int .i64 yv, .bool yg, .string (bs yc)]) (Blk.new_ (wr.drewN q) wr.heap.size rfl 41 #[.string (bs yu), .int .i64 yv, .bool yg, .string (bs yc)]) rfl)
              have HB1 := hd (fun (q : Nat) => (balR (bdrewN (Below.refl _ _) q) rfl _ : Below wr.heap.size wr ((wr.drewN q).alloc (.cells #[.string (bs yu), .int .i64 yv, .bool yg, .string (bs yc)] 41))))
              have HO1 := hd (itEnc_one ⟨yu, yv, yg, yc⟩)
              have hml1 := HL6.o.1.2
              have hmb1 := HL6.o.1.1
              go_wp2_with fail
              go_quiet (fail)
              go_wp2_with fail
              go_quiet (fail)
              go_wp2_with (at_builtin; refine wpList_append_row rfl (.tmp 41) (.tmp 46) 28 rfl (Of E) 41 i0 (.agg #[.string ⟨#[]⟩, .int .i64 0, .bool false, .string ⟨#[]⟩]) 4 48 Try.underlying28 hi hz0 hz1 hz2 rfl E (out).length ec (itsEnc (out)) rfl (HR1.o _) ⟨wr.heap.size, 0, none⟩ 1 1 [.string (bs yu), .int .i64 yv, .bool yg, .string (bs yc)] rfl rfl (HW1.o _) HO1.o (by omega) hml1 hmb1 ?_; intro M3A M3c M3w M3h M3g; have M3 := hd (PutM.app HM.o (y := ⟨yu, yv, yg, yc⟩) rfl (HB1.o _) M3h M3g); clear M3h M3g)
              go_roundw
              case rel => exact ⟨k + 1, true, _, _, out ++ [(⟨yu, yv, yg, yc⟩ : It)], by go_num, rfl, by simp only [List.length_append, List.length_cons, List.length_nil], by omega, M3, HN2⟩
              case measure => simp [intOf]; omega
          | false =>
            cases be with
            | true =>
              have HE : Hd (yu = xu) := hd (by simpa using HBE.o)
              have HN2 := hd (by have := HN1.o; rw [if_pos HE.o] at this; simpa using this)
              have HR1 := hd (fun (q : Nat) => ((HM.o.row.own_.drewN q).alloc _ : Row ((wr.drewN q).alloc (.cells #[.string (bs xu), .int .i64 xv, .bool false, .string (bs xc)] 41)) (Of E) 41 4 E (out).length ec (itsEnc (out))))
              have HW1 := hd (fun (q : Nat) => cells_at (l := [.string (bs xu), .int .i64 xv, .bool false, .string (bs xc)]) (Blk.new_ (wr.drewN q) wr.heap.size rfl 41 #[.string (bs xu), .int .i64 xv, .bool false, .string (bs xc)]) rfl)
              have HB1 := hd (fun (q : Nat) => (balR (bdrewN (Below.refl _ _) q) rfl _ : Below wr.heap.size wr ((wr.drewN q).alloc (.cells #[.string (bs xu), .int .i64 xv, .bool false, .string (bs xc)] 41))))
              have HO1 := hd (itEnc_one ⟨xu, xv, false, xc⟩)
              have hml1 := HL6.o.1.2
              have hmb1 := HL6.o.1.1
              go_wp2_with fail
              go_quiet (fail)
              go_wp2_with (at_builtin; refine wpList_append_row rfl (.tmp 29) (.tmp 31) 28 rfl (Of E) 41 i0 (.agg #[.string ⟨#[]⟩, .int .i64 0, .bool false, .string ⟨#[]⟩]) 4 48 Try.underlying28 hi hz0 hz1 hz2 rfl E (out).length ec (itsEnc (out)) rfl (HR1.o _) ⟨wr.heap.size, 0, none⟩ 1 1 [.string (bs xu), .int .i64 xv, .bool false, .string (bs xc)] rfl rfl (HW1.o _) HO1.o (by omega) hml1 hmb1 ?_; intro M2A M2c M2w M2h M2g; have M2 := hd (PutM.app HM.o (y := ⟨xu, xv, false, xc⟩) rfl (HB1.o _) M2h M2g); obtain ⟨z0, z1, z2, z3⟩ := M2.o.cells; simp only at z0 z1 z2 z3; have t0 := HCELL.o _ M2.o.below 0 _ (by omega) rfl; have t1 := HCELL.o _ M2.o.below 1 _ (by omega) rfl; have t2 := HCELL.o _ M2.o.below 2 _ (by omega) rfl; have t3 := HCELL.o _ M2.o.below 3 _ (by omega) rfl; rw [← Nat.add_assoc] at t0 t1 t2 t3; rw [Nat.add_zero] at t0; simp only at t0 t1 t2 t3; clear M2h M2g)
              go_quiet (fail)
              go_wp2
              go_roundw
              case rel => exact ⟨k + 1, true, _, _, out ++ [(⟨xu, xv, false, xc⟩ : It)], by go_num, rfl, by simp only [List.length_append, List.length_cons, List.length_nil], by omega, hd (M2.o.drewN _), HN2⟩
              case measure => simp [intOf]; omega
            | false =>
              have HE : Hd (¬ yu = xu) := hd (by simpa using HBE.o)
              have HN2 : Hd (PutAt ⟨xu, xv, false, xc⟩ l (k + 1) true ((out ++ [(⟨xu, xv, false, xc⟩ : It)]) ++ [(⟨yu, yv, yg, yc⟩ : It)])) := hd (by have := HN1.o; rw [if_neg HE.o] at this; simpa using this)
              have HR1 := hd (fun (q : Nat) => ((HM.o.row.own_.drewN q).alloc _ : Row ((wr.drewN q).alloc (.cells #[.string (bs xu), .int .i64 xv, .bool false, .string (bs xc)] 41)) (Of E) 41 4 E (out).length ec (itsEnc (out))))
              have HW1 := hd (fun (q : Nat) => cells_at (l := [.string (bs xu), .int .i64 xv, .bool false, .string (bs xc)]) (Blk.new_ (wr.drewN q) wr.heap.size rfl 41 #[.string (bs xu), .int .i64 xv, .bool false, .string (bs xc)]) rfl)
              have HB1 := hd (fun (q : Nat) => (balR (bdrewN (Below.refl _ _) q) rfl _ : Below wr.heap.size wr ((wr.drewN q).alloc (.cells #[.string (bs xu), .int .i64 xv, .bool false, .string (bs xc)] 41))))
              have HO1 := hd (itEnc_one ⟨xu, xv, false, xc⟩)
              have hml1 := HL6.o.1.2
              have hmb1 := HL6.o.1.1
              go_wp2_with fail
              go_quiet (fail)
              go_wp2_with (at_builtin; refine wpList_append_row rfl (.tmp 29) (.tmp 31) 28 rfl (Of E) 41 i0 (.agg #[.string ⟨#[]⟩, .int .i64 0, .bool false, .string ⟨#[]⟩]) 4 48 Try.underlying28 hi hz0 hz1 hz2 rfl E (out).length ec (itsEnc (out)) rfl (HR1.o _) ⟨wr.heap.size, 0, none⟩ 1 1 [.string (bs xu), .int .i64 xv, .bool false, .string (bs xc)] rfl rfl (HW1.o _) HO1.o (by omega) hml1 hmb1 ?_; intro M2A M2c M2w M2h M2g; have M2 := hd (PutM.app HM.o (y := ⟨xu, xv, false, xc⟩) rfl (HB1.o _) M2h M2g); obtain ⟨z0, z1, z2, z3⟩ := M2.o.cells; simp only at z0 z1 z2 z3; have t0 := HCELL.o _ M2.o.below 0 _ (by omega) rfl; have t1 := HCELL.o _ M2.o.below 1 _ (by omega) rfl; have t2 := HCELL.o _ M2.o.below 2 _ (by omega) rfl; have t3 := HCELL.o _ M2.o.below 3 _ (by omega) rfl; rw [← Nat.add_assoc] at t0 t1 t2 t3; rw [Nat.add_zero] at t0; simp only at t0 t1 t2 t3; clear M2h M2g)
              go_quiet (fail)
              have HL2 : Hd ((out ++ [(⟨xu, xv, false, xc⟩ : It)]).length = out.length + 1) := hd (by simp)
              have hro : Row M2w (Of M2A) 41 4 M2A (out.length + 1) M2c (itsEnc (out ++ [(⟨xu, xv, false, xc⟩ : It)])) := by
                have := M2.o.row.own_
                rw [HL2.o] at this
                exact this
              have HR2 := hd (fun (q : Nat) => ((hro.drewN q).alloc _ : Row ((M2w.drewN q).alloc (.cells #[.string (bs yu), .int .i64 yv, .bool yg, .string (bs yc)] 41)) (Of M2A) 41 4 M2A (out.length + 1) M2c (itsEnc (out ++ [(⟨xu, xv, false, xc⟩ : It)]))))
              clear hro
              have HW2 := hd (fun (q : Nat) => cells_at (l := [.string (bs yu), .int .i64 yv, .bool yg, .string (bs yc)]) (Blk.new_ (M2w.drewN q) M2w.heap.size rfl 41 #[.string (bs yu), .int .i64 yv, .bool yg, .string (bs yc)]) rfl)
              have HB2 := hd (fun (q : Nat) => ((bdrewN (Below.refl M2w.heap.size M2w) q).alloc (Nat.le_refl M2w.heap.size) _ : Below M2w.heap.size M2w ((M2w.drewN q).alloc (.cells #[.string (bs yu), .int .i64 yv, .bool yg, .string (bs yc)] 41))))
              have HO2 := hd (itEnc_one ⟨yu, yv, yg, yc⟩)
              have hml2 := HL6.o.2.2
              have hmb2 := HL6.o.2.1
              go_wp2_with (at_builtin; refine wpList_append_row rfl (.tmp 41) (.tmp 46) 28 rfl (Of M2A) 41 i0 (.agg #[.string ⟨#[]⟩, .int .i64 0, .bool false, .string ⟨#[]⟩]) 4 48 Try.underlying28 hi hz0 hz1 hz2 rfl M2A (out.length + 1) M2c (itsEnc (out ++ [(⟨xu, xv, false, xc⟩ : It)])) rfl (HR2.o _) ⟨M2w.heap.size, 0, none⟩ 1 1 [.string (bs yu), .int .i64 yv, .bool yg, .string (bs yc)] rfl rfl (HW2.o _) HO2.o (by omega) hml2 hmb2 ?_; intro M3A M3c M3w M3h M3g; have M3 := hd (PutM.app M2.o (y := ⟨yu, yv, yg, yc⟩) HL2.o (HB2.o _) M3h M3g); clear M3h M3g)
              go_roundw
              case rel => exact ⟨k + 1, true, _, _, (out ++ [(⟨xu, xv, false, xc⟩ : It)]) ++ [(⟨yu, yv, yg, yc⟩ : It)], by go_num, rfl, by simp only [List.length_append, List.length_cons, List.length_nil], by omega, M3, HN2⟩
              case measure => simp [intOf]; omega
    · have hkn : n = k := by omega
      subst hkn
      obtain ⟨x0, x1, x2, x3⟩ := HM.o.cells
      simp only at x0 x1 x2 x3
      have HP2 := hd (SEND.o done out (by rw [HN.o]; exact HP.o))
      have fin : ∀ (W' : World) (E' : Option Addr) (ec' : Nat) (out' : List It), out' = rl → PutM w W' ⟨xu, xv, xg, xc⟩ E' ec' out' → Row W' (From w.heap.size) 41 4 E' rl.length ec' (itsEnc rl) ∧ Below w.heap.size w W' := fun W' E' ec' out' he hM => by
        subst he
        exact ⟨hM.row.mono fun q hq => by
          have h1 : w.heap.size + 1 ≤ q := hq
          show w.heap.size ≤ q
          omega, hM.below⟩
      have FIN := hd fin
      clear fin
      cases done with
      | true =>
        have HE : Hd (out = rl) := hd (by have := HP2.o; simpa using this.symm)
        have HL : out.length = rl.length := by rw [HE.o]
        go_wp2
        go_ret
        exact ⟨E, ec, rfl, FIN.o _ _ _ _ HE.o HM.o⟩
      | false =>
        cases xg with
        | true =>
          have HE : Hd (out = rl) := hd (by have := HP2.o; simpa using this.symm)
          have HL : out.length = rl.length := by rw [HE.o]
          go_wp2
          go_ret
          exact ⟨E, ec, rfl, FIN.o _ _ _ _ HE.o HM.o⟩
        | false =>
          have HE : Hd (out ++ [(⟨xu, xv, false, xc⟩ : It)] = rl) := hd (by have := HP2.o; simpa using this.symm)
          have HL : out.length + 1 = rl.length := by rw [← HE.o]; simp
          have HR1 := hd (HM.o.row.own_.alloc _ : Row (wr.alloc (.cells #[.string (bs xu), .int .i64 xv, .bool false, .string (bs xc)] 41)) (Of E) 41 4 E out.length ec (itsEnc out))
          have HW1 := hd (cells_at (l := [.string (bs xu), .int .i64 xv, .bool false, .string (bs xc)]) (Blk.new_ wr wr.heap.size rfl 41 #[.string (bs xu), .int .i64 xv, .bool false, .string (bs xc)]) rfl)
          have HB1 := hd (balR (Below.refl _ _) rfl _ : Below wr.heap.size wr (wr.alloc (.cells #[.string (bs xu), .int .i64 xv, .bool false, .string (bs xc)] 41)))
          have HO1 := hd (itEnc_one ⟨xu, xv, false, xc⟩)
          have hml1 := HL6.o.1.2
          have hmb1 := HL6.o.1.1
          go_wp2_with (at_builtin; refine wpList_append_row rfl (.tmp 55) (.tmp 57) 28 rfl (Of E) 41 i0 (.agg #[.string ⟨#[]⟩, .int .i64 0, .bool false, .string ⟨#[]⟩]) 4 48 Try.underlying28 hi hz0 hz1 hz2 rfl E out.length ec (itsEnc out) rfl HR1.o ⟨wr.heap.size, 0, none⟩ 1 1 [.string (bs xu), .int .i64 xv, .bool false, .string (bs xc)] rfl rfl HW1.o HO1.o (by omega) hml1 hmb1 ?_; intro M2A M2c M2w M2h M2g; have M2 := hd (PutM.app HM.o (y := ⟨xu, xv, false, xc⟩) rfl HB1.o M2h M2g); clear M2h M2g)
          go_ret
          exact ⟨M2A, M2c, rfl, FIN.o _ _ _ _ HE.o M2.o⟩

end Go.Proofs.Ytbeckfnhgeclnaa
