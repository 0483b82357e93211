/-
  An answer's items turned.
-/
import Derived.Test.YtbeckfnhgeclnaaStepApp
import Derived.Test.YtbeckfnhgeclnaaCards
import Derived.Test.YtbeckfnhgeclnaaRepP
import Derived.Deep.RegionWith
import Derived.BigRegion
namespace Go.Proofs.Ytbeckfnhgeclnaa
open Go.RowKit Go.Lib

theorem one_set {a w : World} {b i : Nat} {u : Value} (h : Chg (One b) a w) : Chg (One b) a (w.setCell ⟨b, i, none⟩ u) := h.setCell (p := ⟨b, i, none⟩) (.inl (show b = b from rfl)) u
theorem set8 {w : World} {b t : Nat} {a0 a1 a2 a3 a4 a5 a6 a7 : Value} (h : Blk w b t #[a0, a1, a2, a3, a4, a5, a6, a7]) (v0 v1 v2 v3 v4 v5 v6 v7 : Value) : Blk ((((((((w.setCell ⟨b, 0, none⟩ v0).setCell ⟨b, 1, none⟩ v1).setCell ⟨b, 2, none⟩ v2).setCell ⟨b, 3, none⟩ v3).setCell ⟨b, 4, none⟩ v4).setCell ⟨b, 5, none⟩ v5).setCell ⟨b, 6, none⟩ v6).setCell ⟨b, 7, none⟩ v7) b t #[v0, v1, v2, v3, v4, v5, v6, v7] := by
  have h0 : Blk (w.setCell ⟨b, 0, none⟩ v0) b t #[v0, a1, a2, a3, a4, a5, a6, a7] := by
    have := Blk.set_ h 0 v0
    simpa using this
  have h1 : Blk ((w.setCell ⟨b, 0, none⟩ v0).setCell ⟨b, 1, none⟩ v1) b t #[v0, v1, a2, a3, a4, a5, a6, a7] := by
    have := Blk.set_ h0 1 v1
    simpa using this
  have h2 : Blk (((w.setCell ⟨b, 0, none⟩ v0).setCell ⟨b, 1, none⟩ v1).setCell ⟨b, 2, none⟩ v2) b t #[v0, v1, v2, a3, a4, a5, a6, a7] := by
    have := Blk.set_ h1 2 v2
    simpa using this
  have h3 : Blk ((((w.setCell ⟨b, 0, none⟩ v0).setCell ⟨b, 1, none⟩ v1).setCell ⟨b, 2, none⟩ v2).setCell ⟨b, 3, none⟩ v3) b t #[v0, v1, v2, v3, a4, a5, a6, a7] := by
    have := Blk.set_ h2 3 v3
    simpa using this
  have h4 : Blk (((((w.setCell ⟨b, 0, none⟩ v0).setCell ⟨b, 1, none⟩ v1).setCell ⟨b, 2, none⟩ v2).setCell ⟨b, 3, none⟩ v3).setCell ⟨b, 4, none⟩ v4) b t #[v0, v1, v2, v3, v4, a5, a6, a7] := by
    have := Blk.set_ h3 4 v4
    simpa using this
  have h5 : Blk ((((((w.setCell ⟨b, 0, none⟩ v0).setCell ⟨b, 1, none⟩ v1).setCell ⟨b, 2, none⟩ v2).setCell ⟨b, 3, none⟩ v3).setCell ⟨b, 4, none⟩ v4).setCell ⟨b, 5, none⟩ v5) b t #[v0, v1, v2, v3, v4, v5, a6, a7] := by
    have := Blk.set_ h4 5 v5
    simpa using this
  have h6 : Blk (((((((w.setCell ⟨b, 0, none⟩ v0).setCell ⟨b, 1, none⟩ v1).setCell ⟨b, 2, none⟩ v2).setCell ⟨b, 3, none⟩ v3).setCell ⟨b, 4, none⟩ v4).setCell ⟨b, 5, none⟩ v5).setCell ⟨b, 6, none⟩ v6) b t #[v0, v1, v2, v3, v4, v5, v6, a7] := by
    have := Blk.set_ h5 6 v6
    simpa using this
  have h7 : Blk ((((((((w.setCell ⟨b, 0, none⟩ v0).setCell ⟨b, 1, none⟩ v1).setCell ⟨b, 2, none⟩ v2).setCell ⟨b, 3, none⟩ v3).setCell ⟨b, 4, none⟩ v4).setCell ⟨b, 5, none⟩ v5).setCell ⟨b, 6, none⟩ v6).setCell ⟨b, 7, none⟩ v7) b t #[v0, v1, v2, v3, v4, v5, v6, v7] := by
    have := Blk.set_ h6 7 v7
    simpa using this
  exact h7
theorem set8c (w : World) (b : Nat) (v0 v1 v2 v3 v4 v5 v6 v7 : Value) : Chg (One b) w ((((((((w.setCell ⟨b, 0, none⟩ v0).setCell ⟨b, 1, none⟩ v1).setCell ⟨b, 2, none⟩ v2).setCell ⟨b, 3, none⟩ v3).setCell ⟨b, 4, none⟩ v4).setCell ⟨b, 5, none⟩ v5).setCell ⟨b, 6, none⟩ v6).setCell ⟨b, 7, none⟩ v7) := by
  iterate 8 refine one_set ?_
  exact Chg.refl _ _
theorem rev_take (l : List It) (k : Nat) (h : k < l.length) : (l.drop k).reverse = (l.drop (k + 1)).reverse ++ [l[k]] := by
  rw [List.drop_eq_getElem_cons h, List.reverse_cons]

set_option maxRecDepth 100000 in
set_option maxHeartbeats 4000000 in
theorem back_calls (w : World) (r : Rs) (A : Option Addr) (c : Nat) (items : List It) (hr : Rds w A items.length 4 (itsEnc items)) (hl : items.length ≤ 1000000) :
    Calls Try.prog 30 #[.agg (rsEnc r A items.length c).toArray] w fun e w' => ∃ A' c', e = .returned (.agg (rsEnc r A' items.length c').toArray) ∧ Row w' (From w.heap.size) 41 4 A' items.length c' (itsEnc items.reverse) ∧ Below w.heap.size w w' := by
  obtain ⟨n, hn⟩ : ∃ n, items.length = n := ⟨_, rfl⟩
  obtain ⟨kind, err, tok, version, card, index, mr⟩ := r
  obtain ⟨i0, hi, hz0, hz1, hz2⟩ := info_parts itInfo
  simp only [rsEnc]
  rw [hn] at hr hl ⊢
  have HN := hd hn
  have HR := hd hr
  clear hn hr
  go_enter Try.func30, Try.ntmps30
  go_wp2_with fail
  go_loopw [4] (fun i wr => ∃ (k m : Nat) (B : Option Addr) (d : Nat), i = .int .i64 ((k : Int) - 1) ∧ k + m = n ∧ Blk wr w.heap.size 35 #[.int .i64 kind, .int .i64 err, .int .i64 tok, .int .i64 version, .string (bs card), .int .i64 index, .bool mr, .slice B m d] ∧ Row wr (From (w.heap.size + 2)) 41 4 B m d (itsEnc (items.drop k).reverse) ∧ Below w.heap.size w wr ∧ Blk wr (w.heap.size + 1) 35 #[.int .i64 0, .int .i64 0, .int .i64 0, .int .i64 0, .string ⟨#[]⟩, .int .i64 0, .bool false, .slice none 0 0]) (fun i _ => (intOf i + 1).toNat)
  case atStart =>
    refine ⟨n, 0, none, 0, rfl, rfl, (Blk.new w _ _).alloc _, ?_, ((Below.refl _ w).alloc (Nat.le_refl _) _).alloc (by simp) _, Blk.new_ _ _ (by simp) _ _⟩
    rw [List.drop_of_length_le (by rw [HN.o]; exact Nat.le_refl _)]
    exact Row.nil _ _ _ _
  case round =>
    obtain ⟨k, m, B, d, rfl, hkm, hb, hrow, hbe, hb2⟩ := hrel
    cases k with
    | zero =>
      obtain rfl : m = n := by omega
      have HB := hd hb
      have HB2 := hd hb2
      have HRW := hd hrow
      have HBE := hd hbe
      have hl := hb.lt
      have hl2 := hb2.lt
      have v0 := hb.at_ 0 rfl
      have v1 := hb.at_ 1 rfl
      have v2 := hb.at_ 2 rfl
      have v3 := hb.at_ 3 rfl
      have v4 := hb.at_ 4 rfl
      have v5 := hb.at_ 5 rfl
      have v6 := hb.at_ 6 rfl
      have v7 := hb.at_ 7 rfl
      have g0 := hb2.at_ 0 rfl
      have g1 := hb2.at_ 1 rfl
      have g2 := hb2.at_ 2 rfl
      have g3 := hb2.at_ 3 rfl
      have g4 := hb2.at_ 4 rfl
      have g5 := hb2.at_ 5 rfl
      have g6 := hb2.at_ 6 rfl
      have g7 := hb2.at_ 7 rfl
      have f0 := hb2.frozen 0
      have f1 := hb2.frozen 1
      have f2 := hb2.frozen 2
      have f3 := hb2.frozen 3
      have f4 := hb2.frozen 4
      have f5 := hb2.frozen 5
      have f6 := hb2.frozen 6
      have f7 := hb2.frozen 7
      clear hb hb2 hrow hbe HR
      go_wp2
      have hB := set8 HB2.o (.int .i64 kind) (.int .i64 err) (.int .i64 tok) (.int .i64 version) (.string (bs card)) (.int .i64 index) (.bool mr) (.slice B m d)
      have hC := set8c wr (w.heap.size + 1) (.int .i64 kind) (.int .i64 err) (.int .i64 tok) (.int .i64 version) (.string (bs card)) (.int .i64 index) (.bool mr) (.slice B m d)
      have x0 := hB.at_ 0 rfl
      have x1 := hB.at_ 1 rfl
      have x2 := hB.at_ 2 rfl
      have x3 := hB.at_ 3 rfl
      have x4 := hB.at_ 4 rfl
      have x5 := hB.at_ 5 rfl
      have x6 := hB.at_ 6 rfl
      have x7 := hB.at_ 7 rfl
      refine bodyPost_ret (v := .agg #[.int .i64 kind, .int .i64 err, .int .i64 tok, .int .i64 version, .string (bs card), .int .i64 index, .bool mr, .slice B m d]) ?_ rfl ⟨_, _, rfl, ?_, ?_⟩
      · clear v0 v1 v2 v3 v4 v5 v6 v7 g0 g1 g2 g3 g4 g5 g6 g7
        clear hB hC
        generalize (World.setCell _ _ _) = WW at *
        simp [results, Try.results30, go_sem, x0, x1, x2, x3, x4, x5, x6, x7]
      · exact (HRW.o.chg hC (fun q hq h1 => by
          have h2 : q = w.heap.size + 1 := h1
          have h3 : w.heap.size + 2 ≤ q := hq
          omega)).mono (fun q hq => by
          have h3 : w.heap.size + 2 ≤ q := hq
          show w.heap.size ≤ q
          omega)
      · exact HBE.o.trans (hC.below (fun q h1 => by
          have h2 : q = w.heap.size + 1 := h1
          omega) (by omega))
    | succ k =>
      have hk0 : (0 : Int) ≤ ((k + 1 : Nat) : Int) - 1 := by omega
      have hk1 : ((k + 1 : Nat) : Int) - 1 < (n : Int) := by omega
      have hk2 : ((k + 1 : Nat) : Int) - 1 = (k : Int) := by omega
      rw [hk2] at hk0 hk1 ⊢
      have hkl : k < items.length := by rw [HN.o]; omega
      obtain ⟨g, o, rfl, hg, hc⟩ := (HR.o.below hbe).at_ (by omega)
      obtain ⟨x, hx, hxc⟩ : ∃ x, items[k] = x ∧ ∀ j, j < 4 → (itsEnc items)[k * 4 + j]? = (itEnc x)[j]? := ⟨_, rfl, fun j hj => flat_at itEnc 4 itEnc_len items k hkl j hj⟩
      have hcx : ∀ j u, j < 4 → (itEnc x)[j]? = some u → wr.cell? ⟨g, o + (k * 4 + j), none⟩ = some u := fun j u hj hv => hc _ _ ((hxc j hj).trans hv)
      have hrt := hd (rev_take items k hkl)
      rw [hx] at hrt
      have hone := hd (itEnc_one x)
      obtain ⟨xu, xv, xg, xc⟩ := x
      have a0 := hcx 0 _ (by omega) rfl
      have a1 := hcx 1 _ (by omega) rfl
      have a2 := hcx 2 _ (by omega) rfl
      have a3 := hcx 3 _ (by omega) rfl
      rw [← Nat.add_assoc] at a0 a1 a2 a3
      rw [Nat.add_zero] at a0
      have b7 := hb.at_ 7 rfl
      have f7 := hb.frozen 7
      have bl := hb.lt
      have HB := hd hb
      have HB2 := hd hb2
      have HRW := hd hrow
      have HBE := hd hbe
      have N1 : Hd (¬ Of B w.heap.size) := hd (fun h => by have : w.heap.size + 2 ≤ w.heap.size := hrow.of_sub _ h; omega)
      have N2 : Hd (¬ Of B (w.heap.size + 1)) := hd (fun h => by have : w.heap.size + 2 ≤ w.heap.size + 1 := hrow.of_sub _ h; omega)
      have hmm : m + 1 ≤ maxLen := by unfold maxLen; omega
      have hby : (m + 1) * 48 ≤ 140737488355328 := by omega
      have HSZ := hd hbe.size
      clear hb hb2 hrow hbe hc hxc hcx hx HR
      go_wp2_with fail
      go_region_law (
        (refine step_append_any (by rfl) _ _ 28 (by rfl) (Of B) 41 i0 (.agg #[.string ⟨#[]⟩, .int .i64 0, .bool false, .string ⟨#[]⟩]) 4 48 Try.underlying28 hi hz0 hz1 hz2 rfl B m d (itsEnc (items.drop (k + 1)).reverse) (by rfl) _ 1 1 [.string (bs xu), .int .i64 xv, .bool xg, .string (bs xc)] (by rfl) rfl hone.o (by omega) hmm hby ?_ ?_ ?_
         · (with_reducible (repeat (first | exact HRW.o.own_ | refine Row.alloc ?_ _ | refine Row.drew ?_)))
         · (refine cells_at (t := 41) (cs := #[.string (bs xu), .int .i64 xv, .bool xg, .string (bs xc)]) ?_ rfl
            repeat (first | (with_reducible refine Blk.new_ _ _ ?_ _ _; simp; done) | with_reducible refine Blk.alloc ?_ _ | with_reducible refine Blk.drew ?_))
         intro E1 e1 x1 z1 zc1
         have bx : Blk _ w.heap.size 35 #[.int .i64 kind, .int .i64 err, .int .i64 tok, .int .i64 version, .string (bs card), .int .i64 index, .bool mr, .slice B m d] := Blk.chg (by with_reducible (repeat (first | exact HB.o | refine Blk.alloc ?_ _ | refine Blk.drew ?_))) zc1 N1.o
         have v1 := bx.at_ 7 rfl
         have g1 := bx.frozen 7
         have BX := hd bx
         have Z1 := hd z1
         have ZC1 := hd zc1
         clear z1 zc1 bx))
      all_goals
        have hN : Row (x1.setCell ⟨w.heap.size, 7, none⟩ (.slice E1 (m + 1) e1)) (From (w.heap.size + 2)) 41 4 E1 (m + 1) e1 (itsEnc (items.drop k).reverse) := by
          rw [hrt.o]
          have e0 : itsEnc ((items.drop (k + 1)).reverse ++ [⟨xu, xv, xg, xc⟩]) = itsEnc (items.drop (k + 1)).reverse ++ [.string (bs xu), .int .i64 xv, .bool xg, .string (bs xc)] := by simp [itsEnc, itEnc]
          rw [e0]
          refine (Z1.o.mono fun q hq => ?_).far (Z1.o.ne_blk BX.o (by decide)) _
          rcases hq with hq | hq
          · exact HRW.o.of_sub q hq
          · have h1 := HB2.o.lt
            simp at hq
            show w.heap.size + 2 ≤ q
            omega
        have hC : Chg (fun q => Of B q ∨ q = w.heap.size) wr (x1.setCell ⟨w.heap.size, 7, none⟩ (.slice E1 (m + 1) e1)) := (Chg.trans (S := fun q => Of B q ∨ q = w.heap.size) (by with_reducible (repeat (first | exact Chg.refl _ _ | refine Chg.alloc ?_ _ | refine Chg.drew ?_))) ZC1.o (fun q hq => .inl (.inl hq))).setCell (.inl (.inr rfl)) _
        have hBN : Below w.heap.size w (x1.setCell ⟨w.heap.size, 7, none⟩ (.slice E1 (m + 1) e1)) := HBE.o.trans (hC.below (fun q hq => by
          rcases hq with hq | rfl
          · have : w.heap.size + 2 ≤ q := HRW.o.of_sub _ hq
            omega
          · exact Nat.le_refl _) HSZ.o)
        have hb2N := HB2.o.chg hC (fun h => by
          rcases h with h | h
          · exact N2.o h
          · omega)
        have HN2 := hd hN
        have HBN := hd hBN
        have HB2N := hd hb2N
        have HBX := hd (BX.o.set_ 7 (.slice E1 (m + 1) e1))
        clear hN hC hBN hb2N Z1 ZC1 BX HB HB2 HRW HBE N1 N2
        go_wp2
        go_roundw
        case rel => exact ⟨k, m + 1, E1, e1, by go_num, by omega, HBX.o, HN2.o, HBN.o, HB2N.o⟩
        case measure => simp [intOf]

end Go.Proofs.Ytbeckfnhgeclnaa
