/-
  The reference's EncodeReq, whole.
-/
import Derived.Test.YtogjokofmfpmgaaGreatDoorGAP
import Derived.Test.YtogjokofmfpmgaaGreatDoorGAR
import Derived.Test.YtogjokofmfpmgaaGreatDoorGAK
import Derived.Test.YtogjokofmfpmgaaGreatDoorGAO
import Derived.Deep.QuietTactic
import Derived.BigQuiet
import Derived.Test.YtogjokofmfpmgaaGreatDoorGAD
import Derived.Test.YtogjokofmfpmgaaGreatDoorGAJ
set_option linter.unusedVariables false
set_option linter.unusedSimpArgs false
namespace Go.Proofs.YtogjokofmfpmgaaGreatDoor
open Go.RowKit

set_option maxRecDepth 100000 in
set_option maxHeartbeats 4000000 in
theorem renc_calls (q : Rq) (A : Option Addr) (c : Nat) (w : World) (hr : Rds w A q.ops.length 5 (opsE q.ops)) (hs : RqS q) (hB : RqB q) :
    Calls Tryz.prog 16 #[reqV q A c] w fun e w' => EncR w q e w' := by
  have C1 := fun W (h : Below w.heap.size w W) => rcheck_calls q A c W (hr.below h) hs
  by_cases h0 : chk q = 0
  · obtain ⟨k, tn, col, uid, card, ck, cv, ops, tok, most, ticks⟩ := q
    exact renc_in k tn col uid card ck cv ops tok most ticks A c w hr hB h0 C1
  · have H0 := hd h0
    have h0b : (chk q != 0) = true := by simpa using h0
    unfold reqV reqE at *
    generalize q.ops.length = n at *
    obtain ⟨Y, hY⟩ : ∃ Y, Y = w.alloc (.cells #[.int .i64 q.k, .string (bs q.tn), .string (bs q.col), .string (bs q.uid), .string (bs q.card), .int .i64 q.ck, .int .i64 q.cv, .slice A n c, .int .i64 q.tok, .int .i64 q.most, .int .i64 q.ticks] 26) := ⟨_, rfl⟩
    have HK := hd (show Blk Y w.heap.size 26 #[.int .i64 q.k, .string (bs q.tn), .string (bs q.col), .string (bs q.uid), .string (bs q.card), .int .i64 q.ck, .int .i64 q.cv, .slice A n c, .int .i64 q.tok, .int .i64 q.most, .int .i64 q.ticks] by rw [hY]; exact Blk.new _ _ _)
    have HBY := hd (show Below w.heap.size w Y by rw [hY]; exact (Below.refl _ w).alloc (Nat.le_refl _) _)
    have HYY := hd hY
    replace C1 := hd (C1 Y HBY.o)
    have y0 := HK.o.at_ 0 rfl
    have y1 := HK.o.at_ 1 rfl
    have y2 := HK.o.at_ 2 rfl
    have y3 := HK.o.at_ 3 rfl
    have y4 := HK.o.at_ 4 rfl
    have y5 := HK.o.at_ 5 rfl
    have y6 := HK.o.at_ 6 rfl
    have y7 := HK.o.at_ 7 rfl
    have y8 := HK.o.at_ 8 rfl
    have y9 := HK.o.at_ 9 rfl
    have y10 := HK.o.at_ 10 rfl
    have hl0 := HK.o.lt
    clear hr hs hB hY h0
    go_enter Tryz.func16, Tryz.ntmps16
    go_upto_region 1 with (fail)
    rw [← HYY.o]
    go_wp2_with fail
    refine C1.o.mono ?_
    rintro e w1 ⟨rfl, hb1⟩
    have HB1 := hd (HBY.o.trans (hb1.mono HBY.o.size))
    clear hb1
    go_wp2
    go_ret2
    exact ⟨fun h => absurd h H0.o, fun _ => ⟨rfl, HB1.o⟩⟩

end Go.Proofs.YtogjokofmfpmgaaGreatDoor
namespace Go.Proofs.YtogjokofmfpmgaaGreatDoor
open Go.RowKit

set_option maxRecDepth 100000 in
set_option maxHeartbeats 4000000 in
theorem kframe_calls (q : Rq) (A : Option Addr) (c : Nat) (w : World) (hr : Rds w A q.ops.length 5 (opsE q.ops)) (hs : RqS q) (hB : RqB q) (h0 : chk q = 0) :
    Calls Tryz.prog 73 #[reqV q A c] w fun e w' => e = .returned (.string (bs (frameB q.k.toNat (encB q)))) ∧ Below w.heap.size w w' := by
  have hk : 1 ≤ q.k ∧ q.k ≤ 11 := by have := (chk_0 h0).1; unfold isK at this; simpa using this
  have hl := enc_len h0 hB
  obtain ⟨kn, hkn⟩ : ∃ kn : Nat, q.k = (kn : Int) := ⟨q.k.toNat, by omega⟩
  have hk2 : kn ≤ 255 := by omega
  obtain ⟨Y, hY⟩ : ∃ Y, Y = w.alloc (.cells #[.int .i64 q.k, .string (bs q.tn), .string (bs q.col), .string (bs q.uid), .string (bs q.card), .int .i64 q.ck, .int .i64 q.cv, .slice A q.ops.length c, .int .i64 q.tok, .int .i64 q.most, .int .i64 q.ticks] 26) := ⟨_, rfl⟩
  have HK := hd (show Blk Y w.heap.size 26 #[.int .i64 q.k, .string (bs q.tn), .string (bs q.col), .string (bs q.uid), .string (bs q.card), .int .i64 q.ck, .int .i64 q.cv, .slice A q.ops.length c, .int .i64 q.tok, .int .i64 q.most, .int .i64 q.ticks] by rw [hY]; exact Blk.new _ _ _)
  have HBY := hd (show Below w.heap.size w Y by rw [hY]; exact (Below.refl _ w).alloc (Nat.le_refl _) _)
  have C1 := renc_calls q A c Y (hr.below HBY.o) hs hB
  have HF := hd (show frameB q.k.toNat (encB q) = [] ++ frameB kn (bs (encB q)).data.toList by rw [bs_data, hkn]; rfl)
  have HE := hd (show ∀ e w', EncR Y q e w' → ∃ (A : Option Addr) (m c : Nat), e = .returned (.tuple #[.slice A m c, .int .i64 0]) ∧ m = (encB q).length ∧ Row w' (From Y.heap.size) 5 1 A m c (u8E (encB q)) ∧ Below Y.heap.size Y w' from fun e w' h => h.yes h0)
  rw [HF.o]
  unfold reqV reqE at *
  generalize encB q = B at *
  generalize q.ops.length = no at *
  replace C1 := hd C1
  have HYY := hd hY
  have y0 := HK.o.at_ 0 rfl
  have y1 := HK.o.at_ 1 rfl
  have y2 := HK.o.at_ 2 rfl
  have y3 := HK.o.at_ 3 rfl
  have y4 := HK.o.at_ 4 rfl
  have y5 := HK.o.at_ 5 rfl
  have y6 := HK.o.at_ 6 rfl
  have y7 := HK.o.at_ 7 rfl
  have y8 := HK.o.at_ 8 rfl
  have y9 := HK.o.at_ 9 rfl
  have y10 := HK.o.at_ 10 rfl
  have hl0 := HK.o.lt
  have HKN := hd hkn
  clear hr hs hB hY h0 hk hkn
  go_enter Tryz.func73, Tryz.ntmps73
  go_upto_region 1 with (fail)
  rw [← HYY.o]
  go_wp2_with fail
  refine C1.o.mono ?_
  rintro e w1 hE
  obtain ⟨A1, m1, c1, rfl, hm1, hr1, hb1⟩ := HE.o _ _ hE
  have HB1 := hd (HBY.o.trans (hb1.mono HBY.o.size))
  have HK1 := HK.o.below hb1 hl0
  have z0 := HK1.at_ 0 rfl
  rw [HKN.o] at z0
  have kc := conv_back (P := Tryz.prog) w1 27 9 5 Tryz.underlying27 Tryz.underlying5 Tryz.underlying9 A1 m1 c1 B hm1 hr1.rds
  have C2 := hd (rput_yes w1 none 0 0 [] kn (bs B) rfl (rds_0 w1 none) (by omega) hk2 (by rw [bs_size]; omega))
  clear y0 y1 y2 y3 y4 y5 y6 y7 y8 y9 y10 hE hm1 hr1 hb1 HK1 C1 HE
  go_wp2_with fail
  refine C2.o.mono ?_
  rintro e w2 ⟨⟨A2, m2, c2, rfl, hm2, hr2, hb2⟩⟩
  have HB2 := hd (HB1.o.trans (hb2.mono HB1.o.size))
  have kc2 := conv_back (P := Tryz.prog) w2 27 9 5 Tryz.underlying27 Tryz.underlying5 Tryz.underlying9 A2 m2 c2 _ hm2 hr2.rds
  clear hm2 hr2 hb2 kc z0
  go_wp2_with fail
  go_ret
  exact ⟨rfl, HB2.o⟩
end Go.Proofs.YtogjokofmfpmgaaGreatDoor
namespace Go.Proofs.YtogjokofmfpmgaaGreatDoor
open Go.RowKit

def pipE (r : Int) (b : List UInt8) (cl : Bool) : Array Value := #[.int .i64 r, .string (bs b), .bool cl]

set_option maxHeartbeats 4000000 in
theorem room_calls (w : World) (g : Nat) (r : Int) (b : List UInt8) (cl : Bool) (h : Blk w g 123 (pipE r b cl)) (hr0 : 0 ≤ r) (hr : r ≤ 9223372036854775807) (hb : b.length ≤ 1000000000) :
    Calls Tryz.prog 95 #[.pointer (some ⟨g, 0, none⟩)] w fun e w' => e = .returned (.int .i64 (r - b.length)) ∧ ∃ m, w' = w.drewN m := by
  have z0 : w.cell? ⟨g, 0, none⟩ = some (.int .i64 r) := h.at_ 0 rfl
  have z1 : w.cell? ⟨g, 1, none⟩ = some (.string (bs b)) := h.at_ 1 rfl
  have hs := bs_size b
  obtain ⟨s, hss⟩ : ∃ s, bs b = s := ⟨_, rfl⟩
  rw [hss] at z1 hs
  rw [← hs] at hb ⊢
  have w5 : IntKind.i64.wrap (r - (s.size : Int)) = r - (s.size : Int) := by rw [IntKind.wrap_i64]; omega
  clear h hss hs
  go_enter Tryz.func95, Tryz.ntmps95
  go_upto_region 1 with (fail)
  go_quiet (fail)
  go_wp2
  go_ret
  exact ⟨rfl, nq, rfl⟩
set_option maxHeartbeats 4000000 in
theorem look_calls (w : World) (g : Nat) (r : Int) (b : List UInt8) (cl : Bool) (h : Blk w g 123 (pipE r b cl)) :
    Calls Tryz.prog 97 #[.pointer (some ⟨g, 0, none⟩)] w fun e w' => e = .returned (.string (bs b)) ∧ w = w' := by
  have z1 : w.cell? ⟨g, 1, none⟩ = some (.string (bs b)) := h.at_ 1 rfl
  clear h
  go_enter Tryz.func97, Tryz.ntmps97
  go_wp2
  go_ret
  exact ⟨rfl, rfl⟩
set_option maxHeartbeats 4000000 in
theorem closed_calls (w : World) (g : Nat) (r : Int) (b : List UInt8) (cl : Bool) (h : Blk w g 123 (pipE r b cl)) :
    Calls Tryz.prog 98 #[.pointer (some ⟨g, 0, none⟩)] w fun e w' => e = .returned (.bool cl) ∧ w = w' := by
  have z2 : w.cell? ⟨g, 2, none⟩ = some (.bool cl) := h.at_ 2 rfl
  clear h
  go_enter Tryz.func98, Tryz.ntmps98
  go_wp2
  go_ret
  exact ⟨rfl, rfl⟩
end Go.Proofs.YtogjokofmfpmgaaGreatDoor
namespace Go.Proofs.YtogjokofmfpmgaaGreatDoor
open Go.RowKit

set_option maxHeartbeats 4000000 in
theorem close_calls (w : World) (g : Nat) (r : Int) (b : List UInt8) (cl : Bool) (h : Blk w g 123 (pipE r b cl)) :
    Calls Tryz.prog 77 #[.pointer (some ⟨g, 0, none⟩)] w fun e w' => e = .returned (.tuple #[]) ∧ Blk w' g 123 (pipE r b true) ∧ Chg (One g) w w' := by
  have z2 : w.cell? ⟨g, 2, none⟩ = some (.bool cl) := h.at_ 2 rfl
  have f2 := h.frozen 2
  have H := hd h
  clear h
  go_enter Tryz.func77, Tryz.ntmps77
  go_wp2
  (try simp only [Exit.inBlock, Exit.then])
  first | refine bodyPost_ret (results_none rfl _ _ _) rfl ?_ | refine bodyPost_end (results_none rfl _ _ _) rfl ?_
  exact ⟨rfl, by have := H.o.set_ 2 (.bool true); simpa [pipE] using this, chg_one _ _ _ _⟩

/-- May these bytes come? -/
def pipMay (r : Int) (b : List UInt8) (cl : Bool) (s : ByteArray) : Bool := !cl && decide ((s.size : Int) ≤ r - b.length)
set_option maxHeartbeats 4000000 in
theorem pput_calls (w : World) (g : Nat) (r : Int) (b : List UInt8) (cl : Bool) (s : ByteArray) (h : Blk w g 123 (pipE r b cl)) (hr0 : 0 ≤ r) (hr : r ≤ 9223372036854775807) (hb : b.length ≤ 1000000000) (hs : s.size ≤ 1000000000) :
    Calls Tryz.prog 76 #[.pointer (some ⟨g, 0, none⟩), .string s] w fun e w' => e = .returned (.bool (pipMay r b cl s)) ∧ Blk w' g 123 (pipE r (if pipMay r b cl s = true then b ++ s.data.toList else b) cl) ∧ Chg (One g) w w' := by
  have z1 : w.cell? ⟨g, 1, none⟩ = some (.string (bs b)) := h.at_ 1 rfl
  have z2 : w.cell? ⟨g, 2, none⟩ = some (.bool cl) := h.at_ 2 rfl
  have f1 := h.frozen 1
  have H := hd h
  have C1 := hd (fun W (hw : Blk W g 123 (pipE r b cl)) => room_calls W g r b cl hw hr0 hr hb)
  clear h
  cases cl with
  | true =>
    rw [show pipMay r b true s = false from rfl, if_neg (by decide)]
    clear C1
    go_enter Tryz.func76, Tryz.ntmps76
    go_wp2
    go_ret
    exact ⟨rfl, H.o, Chg.refl _ _⟩
  | false =>
    have C2 := hd (C1.o w H.o)
    clear C1
    by_cases hc : (s.size : Int) ≤ r - b.length
    · have d1 : decide (r - (b.length : Int) < (s.size : Int)) = false := by simp; omega
      have hsz : (bs b).size = b.length := bs_size b
      rw [show pipMay r b false s = true by unfold pipMay; simpa using hc, if_pos rfl]
      go_enter Tryz.func76, Tryz.ntmps76
      go_wp2_with (go_at_call 95; refine C2.o.mono ?_; rintro e w' ⟨rfl, m, rfl⟩)
      go_ret
      refine ⟨rfl, ?_, ((Chg.refl (One g) w).drewN m).setCell (p := ⟨g, 1, none⟩) (.inl rfl) _⟩
      have := (H.o.drewN m).set_ 1 (.string (bs b ++ s))
      unfold pipE
      rw [show bs (b ++ s.data.toList) = bs b ++ s by apply ByteArray.ext; simp [bs]]
      simpa [pipE] using this
    · have d1 : decide (r - (b.length : Int) < (s.size : Int)) = true := by simp; omega
      rw [show pipMay r b false s = false by unfold pipMay; simpa using hc, if_neg (by decide)]
      go_enter Tryz.func76, Tryz.ntmps76
      go_wp2_with (go_at_call 95; refine C2.o.mono ?_; rintro e w' ⟨rfl, m, rfl⟩)
      go_ret
      exact ⟨rfl, H.o.drewN m, (Chg.refl _ _).drewN m⟩
end Go.Proofs.YtogjokofmfpmgaaGreatDoor
namespace Go.Proofs.YtogjokofmfpmgaaGreatDoor
open Go.RowKit

set_option maxHeartbeats 4000000 in
theorem pnew_calls (w : World) (r : Int) :
    Calls Tryz.prog 74 #[.int .i64 r] w fun e w' => e = .returned (.pointer (some ⟨w.heap.size, 0, none⟩)) ∧ Blk w' w.heap.size 123 (pipE (max r 0) [] false) ∧ Below w.heap.size w w' := by
  by_cases hr : r < 0
  · have hm : max r 0 = 0 := by omega
    have d1 : decide (r < 0) = true := by simpa using hr
    rw [hm]
    go_enter Tryz.func74, Tryz.ntmps74
    go_wp2
    go_ret
    exact ⟨rfl, Blk.new _ _ _, (Below.refl _ w).alloc (Nat.le_refl _) _⟩
  · have hm : max r 0 = r := by omega
    have d1 : decide (r < 0) = false := by simpa using hr
    rw [hm]
    go_enter Tryz.func74, Tryz.ntmps74
    go_wp2
    go_ret
    exact ⟨rfl, Blk.new _ _ _, (Below.refl _ w).alloc (Nat.le_refl _) _⟩

set_option maxHeartbeats 4000000 in
theorem ptake_calls (w : World) (g n : Nat) (r : Int) (b : List UInt8) (cl : Bool) (h : Blk w g 123 (pipE r b cl)) (hn : n ≤ b.length) (hb : b.length ≤ 1000000000) :
    Calls Tryz.prog 79 #[.pointer (some ⟨g, 0, none⟩), .int .i64 n] w fun e w' => e = .returned (.string (bs (b.take n))) ∧ Blk w' g 123 (pipE r (b.drop n) cl) ∧ Chg (One g) w w' := by
  have z1 : w.cell? ⟨g, 1, none⟩ = some (.string (bs b)) := h.at_ 1 rfl
  have f1 := h.frozen 1
  have H := hd h
  have hs := bs_size b
  have HX := hd (show (bs b).extract 0 n = bs (b.take n) by rw [bs_ext]; simp)
  have HY := hd (show (bs b).extract n (bs b).size = bs (b.drop n) by rw [bs_ext, bs_size, List.take_of_length_le (by simp)])
  have HF := hd (show Blk (w.setCell ⟨g, 1, none⟩ (.string (bs (b.drop n)))) g 123 (pipE r (b.drop n) cl) by have := h.set_ 1 (.string (bs (b.drop n))); simpa [pipE] using this)
  obtain ⟨s, hss⟩ : ∃ s, bs b = s := ⟨_, rfl⟩
  rw [hss] at z1 hs HX HY
  have hns : n ≤ s.size := by omega
  have hsl : s.size ≤ 1000000000 := by omega
  have hi : (n : Int) ≤ (s.size : Int) := by omega
  have h0 : (0 : Int) ≤ (n : Int) := by omega
  have m1 : max (n : Int) 0 = (n : Int) := by omega
  have m2 : min (n : Int) (s.size : Int) = (n : Int) := by omega
  clear h hss hs hn hb
  go_enter Tryz.func79, Tryz.ntmps79
  go_wp2
  go_ret
  rw [HX.o, HY.o]
  exact ⟨rfl, HF.o, chg_one _ _ _ _⟩
end Go.Proofs.YtogjokofmfpmgaaGreatDoor
namespace Go.Proofs.YtogjokofmfpmgaaGreatDoor
open Go.RowKit

/-- A session stands at block g; its pipe at block p. -/
structure SesR (w : World) (g p : Nat) (s : Ss) : Prop where
  b : Blk w g 103 #[.pointer (some ⟨p, 0, none⟩), .string (bs s.tn), .int .i64 s.seq, .bool s.broken]
  p : Blk w p 123 (pipE s.room s.buf s.closed)

theorem SesR.ne {w : World} {g p : Nat} {s : Ss} (h : SesR w g p s) : g ≠ p := h.b.ne_ h.p (by decide)

set_option maxHeartbeats 4000000 in
theorem tenant_calls (w : World) (g p : Nat) (s : Ss) (h : SesR w g p s) :
    Calls Tryz.prog 38 #[.pointer (some ⟨g, 0, none⟩)] w fun e w' => e = .returned (.string (bs s.tn)) ∧ w = w' := by
  have z1 : w.cell? ⟨g, 1, none⟩ = some (.string (bs s.tn)) := h.b.at_ 1 rfl
  clear h
  go_enter Tryz.func38, Tryz.ntmps38
  go_wp2
  go_ret
  exact ⟨rfl, rfl⟩
set_option maxHeartbeats 4000000 in
theorem seq_calls (w : World) (g p : Nat) (s : Ss) (h : SesR w g p s) :
    Calls Tryz.prog 39 #[.pointer (some ⟨g, 0, none⟩)] w fun e w' => e = .returned (.int .i64 s.seq) ∧ w = w' := by
  have z1 : w.cell? ⟨g, 2, none⟩ = some (.int .i64 s.seq) := h.b.at_ 2 rfl
  clear h
  go_enter Tryz.func39, Tryz.ntmps39
  go_wp2
  go_ret
  exact ⟨rfl, rfl⟩
set_option maxHeartbeats 4000000 in
theorem half_calls (w : World) (g p : Nat) (s : Ss) (h : SesR w g p s) :
    Calls Tryz.prog 32 #[.pointer (some ⟨g, 0, none⟩)] w fun e w' => e = .returned (.tuple #[]) ∧ SesR w' g p (halfS s) ∧ Chg (One p) w w' := by
  have z0 : w.cell? ⟨g, 0, none⟩ = some (.pointer (some ⟨p, 0, none⟩)) := h.b.at_ 0 rfl
  have C1 := hd (close_calls w p s.room s.buf s.closed h.p)
  have H := hd h
  clear h
  go_enter Tryz.func32, Tryz.ntmps32
  go_wp2_with (go_at_call 77; refine C1.o.mono ?_; rintro e w' ⟨rfl, hp, hc⟩; have HP := hd hp; have HC := hd hc; clear hp hc)
  (try simp only [Exit.inBlock, Exit.then])
  first | refine bodyPost_ret (results_none rfl _ _ _) rfl ?_ | refine bodyPost_end (results_none rfl _ _ _) rfl ?_
  exact ⟨rfl, ⟨H.o.b.chg HC.o (fun k => H.o.ne k), HP.o⟩, HC.o⟩
end Go.Proofs.YtogjokofmfpmgaaGreatDoor
namespace Go.Proofs.YtogjokofmfpmgaaGreatDoor
open Go.RowKit

theorem may_feed (s : Ss) (x : ByteArray) : mayFeed s x.data.toList = pipMay s.room s.buf s.closed x := by
  unfold mayFeed pipMay
  rw [show x.data.toList.length = x.size by simp]
set_option maxHeartbeats 4000000 in
theorem feed_calls (w : World) (g p : Nat) (s : Ss) (x : ByteArray) (h : SesR w g p s) (hr0 : 0 ≤ s.room) (hr : s.room ≤ 9223372036854775807) (hb : s.buf.length ≤ 1000000000) (hx : x.size ≤ 1000000000) :
    Calls Tryz.prog 30 #[.pointer (some ⟨g, 0, none⟩), .string x] w fun e w' => e = .returned (.bool (mayFeed s x.data.toList)) ∧ SesR w' g p (feedS s x.data.toList) ∧ Chg (One p) w w' := by
  have z0 : w.cell? ⟨g, 0, none⟩ = some (.pointer (some ⟨p, 0, none⟩)) := h.b.at_ 0 rfl
  have C1 := pput_calls w p s.room s.buf s.closed x h.p hr0 hr hb hx
  rw [← may_feed] at C1
  have HF := hd (show ∀ w', Blk w' p 123 (pipE s.room (if mayFeed s x.data.toList = true then s.buf ++ x.data.toList else s.buf) s.closed) → Chg (One p) w w' → SesR w' g p (feedS s x.data.toList) from fun w' h1 h2 => by
    unfold feedS
    split
    · rename_i hm
      rw [if_pos hm] at h1
      exact ⟨h.b.chg h2 (fun k => h.ne k), h1⟩
    · rename_i hm
      rw [if_neg hm] at h1
      exact ⟨h.b.chg h2 (fun k => h.ne k), h1⟩)
  obtain ⟨m, hm⟩ : ∃ m, mayFeed s x.data.toList = m := ⟨_, rfl⟩
  rw [hm] at C1 HF ⊢
  replace C1 := hd C1
  clear h hm
  go_enter Tryz.func30, Tryz.ntmps30
  go_wp2_with (go_at_call 76; refine C1.o.mono ?_; rintro e w' ⟨rfl, hp, hc⟩; have HP := hd hp; have HC := hd hc; clear hp hc)
  go_ret
  exact ⟨rfl, HF.o _ HP.o HC.o, HC.o⟩
set_option maxHeartbeats 4000000 in
theorem snew_calls (w : World) (r : Int) :
    Calls Tryz.prog 28 #[.int .i64 r] w fun e w' => ∃ g, e = .returned (.pointer (some ⟨g, 0, none⟩)) ∧ SesR w' g w.heap.size (newS r) ∧ w.heap.size < g ∧ Below w.heap.size w w' := by
  have C1 := hd (pnew_calls w r)
  go_enter Tryz.func28, Tryz.ntmps28
  go_wp2_with (go_at_call 74; refine C1.o.mono ?_; rintro e w1 ⟨rfl, hp, hb⟩; have HP := hd hp; have HB := hd hb; clear hp hb)
  go_ret
  exact ⟨_, rfl, ⟨Blk.new _ _ _, HP.o.alloc _⟩, HP.o.lt, HB.o.alloc HB.o.size _⟩
end Go.Proofs.YtogjokofmfpmgaaGreatDoor
namespace Go.Proofs.YtogjokofmfpmgaaGreatDoor
open Go.RowKit

/-- What look hands back. -/
def lookV (s : Ss) : Value :=
  if lookW s = 1 then .tuple #[.int .i64 1, .agg #[.int .i64 (frK s.buf : Nat), .string (bs (frB s.buf))], .int .i64 (frN s.buf : Nat), .int .i64 0]
  else .tuple #[.int .i64 (lookW s), .agg #[.int .i64 0, .string ⟨#[]⟩], .int .i64 0, .int .i64 (if lookW s = 3 then frE s.buf else 0)]
theorem res_cell3 {P : Program} {fn : Func} {o p u v : Tmp} {ty : TypeId} (h : fn.results = #[.tmp o, .cell p ty, .tmp u, .tmp v]) (tmps : Array Value) (w : World) (g : Nat) (t : TypeId) (cs : Array Value) (fr : Nat × Nat) (d : TypeDesc)
    (hp : tmps.getD p undef = .pointer (some ⟨g, 0, none⟩)) (hg : w.heap[g]? = some (.cells cs t fr))
    (hu : P.underlying ty = some d) (hd : (match d with | .struct _ | .array _ _ => true | _ => false) = true) (hi : (P.info? ty).map (·.size) = some cs.size) :
    (results fn tmps).run P w = .ok (.tuple #[tmps.getD o undef, .agg cs, tmps.getD u undef, tmps.getD v undef]) w := by
  have hq : (results fn tmps).run P w = ((asAddr (tmps.getD p undef)).run P w).andThen fun a w₁ => ((loadVar ty a).run P w₁).andThen fun x w₂ => .ok (.tuple #[tmps.getD o undef, x, tmps.getD u undef, tmps.getD v undef]) w₂ := by
    simp only [results, h]
    simp [Sem.run_bind, Result.andThen]
  rw [hq, hp]
  simp [asAddr, run_loadVar_row w g t ty cs fr d hg hu hd hi, Result.andThen]
end Go.Proofs.YtogjokofmfpmgaaGreatDoor
namespace Go.Proofs.YtogjokofmfpmgaaGreatDoor
open Go.RowKit

set_option maxRecDepth 100000 in
theorem res_look {tmps : Array Value} {w : World} {g : Nat} {v0 v1 : Value} (hp : tmps.getD 3 undef = .pointer (some ⟨g, 0, none⟩)) (hb : Blk w g 75 #[v0, v1]) :
    (results Tryz.f78 tmps).run Tryz.prog w = .ok (.tuple #[tmps.getD 2 undef, .agg #[v0, v1], tmps.getD 4 undef, tmps.getD 5 undef]) w := res_cell3 rfl tmps w g 75 _ (0, 0) _ hp hb rfl rfl rfl
set_option maxHeartbeats 4000000 in
theorem look_broken (w : World) (g p : Nat) (s : Ss) (h : SesR w g p s) (hk : s.broken = true) :
    Calls Tryz.prog 78 #[.pointer (some ⟨g, 0, none⟩)] w fun e w' => e = .returned (lookV s) ∧ Below w.heap.size w w' := by
  have hl : lookW s = 4 := by unfold lookW; rw [if_pos hk]
  have HV := hd (show lookV s = .tuple #[.int .i64 4, .agg #[.int .i64 0, .string ⟨#[]⟩], .int .i64 0, .int .i64 0] by unfold lookV; rw [hl, if_neg (by decide), if_neg (by decide)])
  obtain ⟨w0, hw0⟩ : ∃ w0, w0 = w.alloc (.cells #[.int .i64 0, .string ⟨#[]⟩] 75) := ⟨_, rfl⟩
  have HZ0 := hd (show Blk w0 w.heap.size 75 #[.int .i64 0, .string ⟨#[]⟩] by rw [hw0]; exact Blk.new _ _ _)
  have HB0 := hd (show Below w.heap.size w w0 by rw [hw0]; exact (Below.refl _ w).alloc (Nat.le_refl _) _)
  have hb0 : Blk w0 g 103 #[.pointer (some ⟨p, 0, none⟩), .string (bs s.tn), .int .i64 s.seq, .bool s.broken] := by rw [hw0]; exact h.b.alloc _
  have s3 : w0.cell? ⟨g, 3, none⟩ = some (.bool true) := by have := hb0.at_ 3 (v := .bool s.broken) rfl; rw [hk] at this; exact this
  have z0 : w0.cell? ⟨w.heap.size, 0, none⟩ = some (.int .i64 0) := HZ0.o.at_ 0 rfl
  have z1 : w0.cell? ⟨w.heap.size, 1, none⟩ = some (.string ⟨#[]⟩) := HZ0.o.at_ 1 rfl
  have f0 := HZ0.o.frozen 0
  have f1 := HZ0.o.frozen 1
  have HW0 := hd hw0
  rw [HV.o]
  clear h hk hl hw0 hb0
  go_enter Tryz.func78, Tryz.ntmps78
  go_upto_region 1 with (fail)
  rw [← HW0.o]
  go_wp2
  (try simp only [Exit.inBlock, Exit.then])
  refine bodyPost_ret (res_look rfl (set2 HZ0.o)) rfl ?_
  exact ⟨rfl, bel2 HB0.o⟩
end Go.Proofs.YtogjokofmfpmgaaGreatDoor
namespace Go.Proofs.YtogjokofmfpmgaaGreatDoor
open Go.RowKit

set_option maxRecDepth 100000 in
set_option maxHeartbeats 4000000 in
theorem look_whole (w : World) (g p : Nat) (s : Ss) (h : SesR w g p s) (hb : s.buf.length ≤ 1000000) :
    Calls Tryz.prog 78 #[.pointer (some ⟨g, 0, none⟩)] w fun e w' => e = .returned (lookV s) ∧ Below w.heap.size w w' := by
  cases hk : s.broken with
  | true => exact look_broken w g p s h hk
  | false =>
  obtain ⟨w0, hw0⟩ : ∃ w0, w0 = w.alloc (.cells #[.int .i64 0, .string ⟨#[]⟩] 75) := ⟨_, rfl⟩
  have HZ0 := hd (show Blk w0 w.heap.size 75 #[.int .i64 0, .string ⟨#[]⟩] by rw [hw0]; exact Blk.new _ _ _)
  have HB0 := hd (show Below w.heap.size w w0 by rw [hw0]; exact (Below.refl _ w).alloc (Nat.le_refl _) _)
  have hb0 : Blk w0 g 103 #[.pointer (some ⟨p, 0, none⟩), .string (bs s.tn), .int .i64 s.seq, .bool s.broken] := by rw [hw0]; exact h.b.alloc _
  have hp0 : Blk w0 p 123 (pipE s.room s.buf s.closed) := by rw [hw0]; exact h.p.alloc _
  have s0 : w0.cell? ⟨g, 0, none⟩ = some (.pointer (some ⟨p, 0, none⟩)) := hb0.at_ 0 rfl
  have s3 : w0.cell? ⟨g, 3, none⟩ = some (.bool false) := by have := hb0.at_ 3 (v := .bool s.broken) rfl; rw [hk] at this; exact this
  have C1 := hd (look_calls w0 p s.room s.buf s.closed hp0)
  obtain ⟨cap, w1, hrun, hrd, hbw, hcap⟩ := conv_to (P := Tryz.prog) w0 9 27 5 Tryz.underlying9 Tryz.underlying27 Tryz.underlying5 (bs s.buf)
  rw [bs_data] at hrd
  have C2 := (next_calls w1 _ (bs s.buf).size cap s.buf (bs_size s.buf) hrd hcap (by rw [bs_size]; exact hb))
  unfold nextV at C2
  obtain ⟨x, hx⟩ : ∃ x, frE s.buf = x := ⟨_, rfl⟩
  have HX := hd hx
  rw [hx] at C2
  generalize h1 : (if x = 0 then frK s.buf else 0) = u1 at C2
  generalize h2 : bs (if x = 0 then frB s.buf else []) = u2 at C2
  generalize h3 : (if x = 0 then frN s.buf else 0) = u3 at C2
  have H1 := hd h1
  have H2 := hd h2
  have H3 := hd h3
  replace C2 := hd C2
  clear hx h1 h2 h3
  have HW0 := hd hw0
  have hk' : s.broken = false := hk
  have HS1 := hd ((hb0.below hbw hb0.lt))
  have HB1 := hd (HB0.o.trans (hbw.mono HB0.o.size))
  have CL := hd (fun W (hW : Blk W p 123 (pipE s.room s.buf s.closed)) => closed_calls W p s.room s.buf s.closed hW)
  have HZ1 := hd (HZ0.o.below hbw HZ0.o.lt)
  have HP1 := hd (hp0.below hbw hp0.lt)
  have HP0 := hd hp0
  have HS0 := hd hb0
  have HH := hd h
  have l0 := hb0.lt
  clear hw0 hb0 hp0 hrd hbw hcap hk h
  have hne : g ≠ w.heap.size := Nat.ne_of_lt HH.o.b.lt
  have hne2 : w.heap.size ≠ g := Ne.symm hne
  have npz : p ≠ w.heap.size := Nat.ne_of_lt HH.o.p.lt
  have C14 : x = 14 → s.closed = true → lookV s = .tuple #[.int .i64 4, .agg #[.int .i64 0, .string ⟨#[]⟩], .int .i64 0, .int .i64 0] := by
    intro a b
    have : lookW s = 4 := by unfold lookW; rw [if_neg (by rw [hk']; decide), if_pos (by rw [HX.o, a]), if_pos b]
    unfold lookV; rw [this, if_neg (by decide), if_neg (by decide)]
  have C14n : x = 14 → s.closed = false → lookV s = .tuple #[.int .i64 0, .agg #[.int .i64 0, .string ⟨#[]⟩], .int .i64 0, .int .i64 0] := by
    intro a b
    have : lookW s = 0 := by unfold lookW; rw [if_neg (by rw [hk']; decide), if_pos (by rw [HX.o, a]), if_neg (by rw [b]; decide)]
    unfold lookV; rw [this, if_neg (by decide), if_neg (by decide)]
  have C0 : x = 0 → lookV s = .tuple #[.int .i64 1, .agg #[.int .i64 (u1 : Nat), .string u2], .int .i64 (u3 : Nat), .int .i64 0] := by
    intro a
    have : lookW s = 1 := by unfold lookW; rw [if_neg (by rw [hk']; decide), if_neg (by rw [HX.o, a]; decide), if_pos (by rw [HX.o, a])]
    have e1 := H1.o
    have e2 := H2.o
    have e3 := H3.o
    rw [if_pos a] at e1 e2 e3
    unfold lookV; rw [this, if_pos rfl, e1, e2, e3]
  have C3 : x ≠ 14 → x ≠ 0 → lookV s = .tuple #[.int .i64 3, .agg #[.int .i64 0, .string ⟨#[]⟩], .int .i64 0, .int .i64 x] := by
    intro a b
    have : lookW s = 3 := by unfold lookW; rw [if_neg (by rw [hk']; decide), if_neg (by rw [HX.o]; exact a), if_neg (by rw [HX.o]; exact b)]
    unfold lookV; rw [this, if_neg (by decide), if_pos rfl, HX.o]
  replace C14 := hd C14
  replace C14n := hd C14n
  replace C0 := hd C0
  replace C3 := hd C3
  clear H1 H2 H3 hb hk'
  generalize hc : s.closed = cl at *
  clear hc
  go_enter Tryz.func78, Tryz.ntmps78
  go_upto_region 1 with (fail)
  rw [← HW0.o]
  go_wp2_with (first | (go_at_call 97; refine C1.o.mono ?_; rintro e w' ⟨rfl, rfl⟩) | (go_at_call 96; refine C2.o.mono ?_; rintro e w2 ⟨rfl, hb2⟩; have HB2 := hd (HB1.o.trans (hb2.mono HB1.o.size)); have hz2 := HZ1.o.below hb2 HZ1.o.lt; have hp2 := HP1.o.below hb2 HP1.o.lt; have z0 := hz2.at_ 0 (v := .int .i64 0) rfl; have z1 := hz2.at_ 1 (v := .string ⟨#[]⟩) rfl; have f0 := hz2.frozen 0; have f1 := hz2.frozen 1; have q0 : w2.cell? ⟨g, 0, none⟩ = some (.pointer (some ⟨p, 0, none⟩)) := HS1.o.below hb2 HS1.o.lt |>.at_ 0 rfl; have HP2 := hd hp2; have HZ2 := hd hz2; clear hz2 hp2 hb2) | (go_at_call 98; refine (CL.o _ ((HP2.o.far npz _).far npz _)).mono ?_; rintro e w' ⟨rfl, rfl⟩))
  · (try simp only [Exit.inBlock, Exit.then])
    have HV := C14.o (by assumption) (by assumption)
    refine bodyPost_ret (res_look rfl (set2 (set2 HZ2.o))) rfl ?_
    exact ⟨rfl.trans (congrArg Ending.returned HV.symm), bel2 (bel2 HB2.o)⟩
  · (try simp only [Exit.inBlock, Exit.then])
    have HV := C14n.o (by assumption) (by assumption)
    refine bodyPost_ret (res_look rfl (set2 (set2 HZ2.o))) rfl ?_
    exact ⟨rfl.trans (congrArg Ending.returned HV.symm), bel2 (bel2 HB2.o)⟩
  · (try simp only [Exit.inBlock, Exit.then])
    rename_i a1 a2 a3
    have HV := C3.o a1 (by intro h; rw [h] at a3; exact absurd a3 (by decide))
    refine bodyPost_ret (res_look rfl (set2 (set2 HZ2.o))) rfl ?_
    exact ⟨rfl.trans (congrArg Ending.returned HV.symm), bel2 (bel2 HB2.o)⟩
  · rename_i a1 a2 a3 K hK
    have hx0 : x = 0 := by simpa using a3
    have HV := hd (C0.o hx0)
    clear a1 a2 a3 C0 C3 C14 C14n
    subst hx0
    obtain ⟨W3, hW3⟩ : ∃ W3, W3 = (w2.setCell ⟨w.heap.size, 0, none⟩ (.int .i64 (u1 : Nat))).setCell ⟨w.heap.size, 1, none⟩ (.string u2) := ⟨_, rfl⟩
    rw [← hW3]
    have HZ3 := hd (show Blk W3 w.heap.size 75 #[.int .i64 (u1 : Nat), .string u2] by rw [hW3]; exact set2 HZ2.o)
    have HB3 := hd (show Below w.heap.size w W3 by rw [hW3]; exact bel2 HB2.o)
    clear hW3 z0 z1 f0 f1 q0
    have z0 : W3.cell? ⟨w.heap.size, 0, none⟩ = some (.int .i64 (u1 : Nat)) := HZ3.o.at_ 0 rfl
    have z1 : W3.cell? ⟨w.heap.size, 1, none⟩ = some (.string u2) := HZ3.o.at_ 1 rfl
    have f0 := HZ3.o.frozen 0
    have f1 := HZ3.o.frozen 1
    go_region
    refine hK _ _ ?_
    go_wp2
    (try simp only [Exit.inBlock, Exit.then])
    refine bodyPost_ret (res_look rfl ((set2 HZ3.o).drew)) rfl ?_
    exact ⟨rfl.trans (congrArg Ending.returned HV.o.symm), (bel2 HB3.o).drew⟩
end Go.Proofs.YtogjokofmfpmgaaGreatDoor
namespace Go.Proofs.YtogjokofmfpmgaaGreatDoor
open Go.RowKit

def Two (a b : Nat) : Nat → Prop := fun k => k = a ∨ k = b
/-- A request's reader. -/
structure RdR (w : World) (x g : Nat) (l : List UInt8) (st : Option (List UInt8)) : Prop where
  o : ∃ (bad : Bool) (st' : Option (List UInt8)), Blk w x 89 #[.pointer (some ⟨g, 0, none⟩), .bool bad] ∧ PkR w g l st' ∧ ((bad = false ∧ st' = st) ∨ (bad = true ∧ st = none))
theorem RdR.lt {w : World} {x g : Nat} {l : List UInt8} {st : Option (List UInt8)} (h : RdR w x g l st) : x < w.heap.size ∧ g < w.heap.size := by
  obtain ⟨bad, st', hb, hp, _⟩ := h.o
  exact ⟨hb.lt, hp.lt⟩
theorem RdR.chg {w w' : World} {T : Nat → Prop} {x g : Nat} {l : List UInt8} {st : Option (List UInt8)} (h : RdR w x g l st) (hc : Chg T w w') (hT : ∀ k, T k → w.heap.size ≤ k ∨ ∃ t cs, Blk w k t cs ∧ 5 ≠ t ∧ 113 ≠ t ∧ 89 ≠ t) : RdR w' x g l st := by
  obtain ⟨bad, st', hb, hp, hs⟩ := h.o
  refine ⟨bad, st', hb.chg hc (fun hg => ?_), hp.chg hc (fun k hk => (hT k hk).imp id (fun ⟨t, cs, h1, h2, h3, _⟩ => ⟨t, cs, h1, h2, h3⟩)), hs⟩
  rcases hT _ hg with hg | ⟨t, cs, hx, _, _, hn⟩
  · have := hb.lt; omega
  · exact hb.ne_ hx hn rfl
theorem RdR.below {w w' : World} {x g : Nat} {l : List UInt8} {st : Option (List UInt8)} (h : RdR w x g l st) (hb : Below w.heap.size w w') : RdR w' x g l st :=
  h.chg (Chg.of_below Non hb) (fun _ h => h.elim)
theorem RdR.alloc {w : World} {x g : Nat} {l : List UInt8} {st : Option (List UInt8)} (h : RdR w x g l st) (o : Obj) : RdR (w.alloc o) x g l st := h.below ((Below.refl _ w).alloc (Nat.le_refl _) o)
theorem RdR.drewN {w : World} {x g : Nat} {l : List UInt8} {st : Option (List UInt8)} (h : RdR w x g l st) (n : Nat) : RdR (w.drewN n) x g l st := h.below (bdrewN (Below.refl _ w) n)
theorem RdR.far {w : World} {x g : Nat} {l : List UInt8} {st : Option (List UInt8)} (h : RdR w x g l st) {b i : Nat} {t : TypeId} {cs : Array Value} (hb : Blk w b t cs) (h1 : 5 ≠ t) (h2 : 113 ≠ t) (h3 : 89 ≠ t) (u : Value) : RdR (w.setCell ⟨b, i, none⟩ u) x g l st :=
  h.chg (T := One b) ((Chg.refl (One b) w).setCell (p := ⟨b, i, none⟩) (.inl rfl) u) (fun k hk => .inr ⟨t, cs, by rw [show k = b from hk]; exact hb, h1, h2, h3⟩)

def smallS (st : Option (List UInt8)) : Option (List UInt8) := (st.bind smallAt).map Prod.snd
def condS (st : Option (List UInt8)) : Option (List UInt8) := (st.bind condAt).map Prod.snd
def I64 (v : Int) : Prop := 0 ≤ v ∧ v ≤ 9223372036854775807
def SmallOk (st : Option (List UInt8)) (v : Int) : Prop := I64 v ∧ ∀ p, st.bind smallAt = some p → v = p.1
def CondOk (st : Option (List UInt8)) (ck cv : Int) : Prop := I64 ck ∧ I64 cv ∧ ∀ p, st.bind condAt = some p → (ck, cv) = p.1
theorem small_of {st : Option (List UInt8)} {v : Int} (h : NumOk st v) : SmallOk st v := by
  refine ⟨⟨h.1, h.2.1⟩, fun p hp => ?_⟩
  cases st with
  | none => cases hp
  | some l =>
    rw [Option.bind_some] at hp
    unfold smallAt at hp
    obtain ⟨q, hq, h2⟩ := Option.bind_eq_some_iff.1 hp
    split at h2
    · injection h2 with h2
      rw [← h2]; exact h.2.2 q (by rw [Option.bind_some, hq])
    · cases h2
theorem smallS_big {st : Option (List UInt8)} {v : Int} (h : NumOk st v) (hv : 2147483647 < v) : smallS st = none := by
  cases st with
  | none => rfl
  | some l =>
    unfold smallS
    rw [Option.bind_some]
    unfold smallAt
    cases hn : numAt l with
    | none => rfl
    | some q =>
      have := h.2.2 q (by rw [Option.bind_some, hn])
      rw [Option.bind_some, if_neg (by omega)]; rfl
theorem smallS_ok {st : Option (List UInt8)} {v : Int} (h : NumOk st v) (hv : ¬ 2147483647 < v) : smallS st = numS st := by
  cases st with
  | none => rfl
  | some l =>
    unfold smallS numS
    rw [Option.bind_some, Option.bind_some]
    unfold smallAt
    cases hn : numAt l with
    | none => rfl
    | some q =>
      have := h.2.2 q (by rw [Option.bind_some, hn])
      rw [Option.bind_some, if_pos (by omega)]
theorem cond_of {st : Option (List UInt8)} {k v : Int} (h1 : SmallOk st k) (h2 : NumOk (smallS st) v) : CondOk st k v ∧ condS st = numS (smallS st) := by
  cases st with
  | none => exact ⟨⟨h1.1, ⟨h2.1, h2.2.1⟩, fun p hp => by cases hp⟩, rfl⟩
  | some l =>
    have e1 : ∀ p, smallAt l = some p → k = p.1 := fun p hp => h1.2 p (by rw [Option.bind_some, hp])
    unfold smallS at h2
    rw [Option.bind_some] at h2
    unfold condS smallS numS
    rw [Option.bind_some, Option.bind_some]
    unfold CondOk
    rw [Option.bind_some]
    unfold condAt
    cases hs : smallAt l with
    | none => exact ⟨⟨h1.1, ⟨h2.1, h2.2.1⟩, fun p hp => by cases hp⟩, rfl⟩
    | some q =>
      rw [hs] at h2
      have e2 : ∀ p, numAt q.2 = some p → v = p.1 := fun p hp => h2.2.2 p (by rw [Option.map_some, Option.bind_some, hp])
      rw [Option.bind_some, Option.map_some, Option.bind_some]
      cases hn : numAt q.2 with
      | none => exact ⟨⟨h1.1, ⟨h2.1, h2.2.1⟩, fun p hp => by cases hp⟩, rfl⟩
      | some r =>
        refine ⟨⟨h1.1, ⟨h2.1, h2.2.1⟩, fun p hp => ?_⟩, rfl⟩
        rw [Option.bind_some] at hp
        injection hp with hp
        rw [← hp, e1 q hs, e2 r hn]

set_option maxHeartbeats 2000000 in
theorem rnum_calls (w : World) (x g : Nat) (l : List UInt8) (st : Option (List UInt8)) (h : RdR w x g l st) (hl : l.length ≤ 1000000) :
    Calls Tryz.prog 57 #[.pointer (some ⟨x, 0, none⟩)] w fun e w' => ∃ v, e = .returned (.int .i64 v) ∧ SmallOk st v ∧ RdR w' x g l (smallS st) ∧ Chg (Two x g) w w' := by
  obtain ⟨bad, st', hb, hp, hs⟩ := h.o
  have C1 := hd (pNum_calls w g l st' hp hl)
  have b0 := hb.at_ 0 rfl
  have HB := hd hb
  have HS := hd hs
  have hxg : Hd (x ≠ g) := hd (by obtain ⟨_, _, _, _, _, h2, _⟩ := hp.o; exact hb.ne_ h2 (by decide))
  have hlt := hb.lt
  clear hb hp hs
  go_enter Tryz.func57, Tryz.ntmps57
  go_wp2_with fail
  refine C1.o.mono ?_
  rintro e w1 ⟨v, rfl, hv, hp1, hc1⟩
  have hb1 := HB.o.chg hc1 hxg.o
  have c1 := hb1.at_ 1 rfl
  have g1 := hb1.frozen 1
  have hlt1 := hb1.lt
  have HB1 := hd hb1
  have HP1 := hd hp1
  have HC1 := hd (hc1.mono (T := Two x g) (fun k hk => .inr hk))
  have HV := hd hv
  have HP2 := hd (fun u => hp1.far (i := 1) hb1 (by decide) (by decide) u)
  have HC2 := hd (fun u => HC1.o.setCell (p := ⟨x, 1, none⟩) (.inl (.inl rfl)) u)
  clear hb1 hp1 hc1 hv
  have hfin : Hd (∀ b : Bool, (b = true ↔ (bad = true ∨ 2147483647 < v)) → ∃ v', Ending.returned (Value.int .i64 v) = .returned (.int .i64 v') ∧ SmallOk st v' ∧ RdR (w1.setCell ⟨x, 1, none⟩ (.bool b)) x g l (smallS st) ∧ Chg (Two x g) w (w1.setCell ⟨x, 1, none⟩ (.bool b))) := hd (fun b hbb => by
    have hsm : SmallOk st v := by
      rcases HS.o with ⟨_, rfl⟩ | ⟨_, rfl⟩
      · exact small_of HV.o
      · exact ⟨⟨HV.o.1, HV.o.2.1⟩, fun p hp => by cases hp⟩
    refine ⟨v, rfl, hsm, ⟨b, numS st', HB1.o.set_ 1 _, HP2.o _, ?_⟩, HC2.o _⟩
    cases b with
    | true =>
      refine .inr ⟨rfl, ?_⟩
      rcases HS.o with ⟨h1, rfl⟩ | ⟨_, rfl⟩
      · rcases hbb.1 rfl with h2 | h2
        · rw [h1] at h2; cases h2
        · exact smallS_big HV.o h2
      · rfl
    | false =>
      have hn : ¬ (bad = true ∨ 2147483647 < v) := fun h => by have := hbb.2 h; cases this
      rcases HS.o with ⟨h1, rfl⟩ | ⟨h1, _⟩
      · exact .inl ⟨rfl, (smallS_ok HV.o (fun h => hn (.inr h))).symm⟩
      · exact absurd (.inl h1) hn)
  clear HP2 HC2
  cases bad with
  | true =>
    go_wp2
    go_ret
    exact hfin.o true (by simp)
  | false =>
    by_cases hbig : 2147483647 < v
    · have hbi : decide ((2147483647 : Int) < v) = true := by simpa using hbig
      go_wp2
      go_ret
      exact hfin.o true (by simp [hbig])
    · have hbi : decide ((2147483647 : Int) < v) = false := by simpa using hbig
      go_wp2
      go_ret
      exact hfin.o false (by simp [hbig])

theorem rdtext_calls (w : World) (x g : Nat) (l : List UInt8) (st : Option (List UInt8)) (h : RdR w x g l st) (hl : l.length ≤ 1000000) :
    Calls Tryz.prog 53 #[.pointer (some ⟨x, 0, none⟩)] w fun e w' => ∃ s, e = .returned (.string s) ∧ TextOk 20000 st s ∧ RdR w' x g l (textS 20000 st) ∧ Chg (Two x g) w w' := by
  obtain ⟨bad, st', hb, hp, hs⟩ := h.o
  have C1 := hd (pText_calls w g l st' 20000 hp hl (by omega))
  have b0 := hb.at_ 0 rfl
  have HB := hd hb
  have HS := hd hs
  have hxg : Hd (x ≠ g) := hd (by obtain ⟨_, _, _, _, _, h2, _⟩ := hp.o; exact hb.ne_ h2 (by decide))
  have hlt := hb.lt
  clear hb hp hs
  go_enter Tryz.func53, Tryz.ntmps53
  go_wp2_with fail
  refine C1.o.mono ?_
  rintro e w1 ⟨s, rfl, hv, hp1, hc1⟩
  have HP1 := hd hp1
  have HC1 := hd hc1
  have HV := hd hv
  clear hp1 hc1 hv
  go_wp2
  go_ret
  refine ⟨s, rfl, ?_, ⟨bad, textS 20000 st', HB.o.chg HC1.o hxg.o, HP1.o, ?_⟩, HC1.o.mono (fun k hk => .inr hk)⟩
  · rcases HS.o with ⟨_, rfl⟩ | ⟨_, rfl⟩
    · exact HV.o
    · exact ⟨HV.o.1, fun p hp => by cases hp⟩
  · rcases HS.o with ⟨h1, rfl⟩ | ⟨h1, rfl⟩
    · exact .inl ⟨h1, rfl⟩
    · exact .inr ⟨h1, rfl⟩

set_option maxRecDepth 100000 in
set_option maxHeartbeats 2000000 in
theorem rcond_calls (w : World) (x g : Nat) (l : List UInt8) (st : Option (List UInt8)) (h : RdR w x g l st) (hl : l.length ≤ 1000000) :
    Calls Tryz.prog 54 #[.pointer (some ⟨x, 0, none⟩)] w fun e w' => ∃ ck cv : Int, e = .returned (.agg #[.int .i64 ck, .int .i64 cv]) ∧ CondOk st ck cv ∧ RdR w' x g l (condS st) ∧ Chg (Two x g) w w' := by
  obtain ⟨X, hX⟩ : ∃ X, X = w.alloc (.cells #[.int .i64 0, .int .i64 0] 23) := ⟨_, rfl⟩
  have HBX := hd (show Blk X w.heap.size 23 #[.int .i64 0, .int .i64 0] by rw [hX]; exact Blk.new _ _ _)
  have HCX := hd (show Chg (Two x g) w X by rw [hX]; exact (Chg.refl _ _).alloc _)
  have hRX : RdR X x g l st := by rw [hX]; exact h.alloc _
  have C1 := hd (rnum_calls X x g l st hRX hl)
  have hxl := h.lt
  have HX := hd hX
  clear h hX hRX
  go_enter Tryz.func54, Tryz.ntmps54
  go_wp2_with fail
  rw [← HX.o]
  refine C1.o.mono ?_
  rintro e w1 ⟨k, rfl, hk, hr1, hc1⟩
  have HR1 := hd hr1
  have HK := hd hk
  have HC1 := hd (HCX.o.trans hc1 (fun k hk => .inl hk))
  have hb1 := HBX.o.chg hc1 (fun h => by rcases h with h | h <;> omega)
  have HB1 := hd hb1
  obtain ⟨bad, st', hb, hp, hs⟩ := hr1.o
  have b0 := hb.at_ 0 rfl
  have C2 := hd (pNum_calls w1 g l st' hp hl)
  have HB := hd hb
  have HS := hd hs
  have hxg : Hd (x ≠ g) := hd (by obtain ⟨_, _, _, _, _, h2, _⟩ := hp.o; exact hb.ne_ h2 (by decide))
  have hlt := hb.lt
  clear hr1 hk hc1 hb hp hs hb1
  go_wp2_with fail
  refine C2.o.mono ?_
  rintro e w2 ⟨v, rfl, hv, hp2, hc2⟩
  have hb2 := HB1.o.chg hc2 (fun h => by have h : w.heap.size = g := h; omega)
  have q0 := hb2.at_ 0 rfl
  have q1 := hb2.at_ 1 rfl
  have z0 := hb2.frozen 0
  have z1 := hb2.frozen 1
  have hl2 := hb2.lt
  have HB2 := hd hb2
  have HP2 := hd hp2
  have HV := hd hv
  have HBx := hd (HB.o.chg hc2 hxg.o)
  have HC2 := hd (HC1.o.trans hc2 (fun k hk => .inl (.inr hk)))
  clear hb2 hp2 hc2 hv
  go_wp2
  (try simp only [Exit.inBlock, Exit.then])
  refine bodyPost_ret (results_cell_row rfl _ _ _ _ _ _ _ rfl ((HB2.o.set_ 0 _).set_ 1 _) rfl rfl rfl) rfl ?_
  have hsm : NumOk (smallS st) v := by
    rcases HS.o with ⟨_, h2⟩ | ⟨_, h2⟩
    · rw [← h2]; exact HV.o
    · rw [h2]; exact ⟨HV.o.1, HV.o.2.1, fun p hp => by cases hp⟩
  obtain ⟨o1, o2⟩ := cond_of HK.o hsm
  have hR2 : RdR w2 x g l (condS st) := ⟨bad, numS st', HBx.o, HP2.o, by
    rw [o2]
    rcases HS.o with ⟨h1, h2⟩ | ⟨h1, h2⟩
    · exact .inl ⟨h1, by rw [h2]⟩
    · exact .inr ⟨h1, by rw [h2]; rfl⟩⟩
  refine ⟨k, v, rfl, o1, ?_, ?_⟩
  · exact (hR2.far HB2.o (by decide) (by decide) (by decide) _).far (HB2.o.set_ 0 _) (by decide) (by decide) (by decide) _
  · exact (HC2.o.setCell (.inr (Nat.le_refl _)) _).setCell (.inr (Nat.le_refl _)) _

end Go.Proofs.YtogjokofmfpmgaaGreatDoor
namespace Go.Proofs.YtogjokofmfpmgaaGreatDoor
open Go.RowKit

theorem opInfo : (Tryz.prog.info? 43).map (fun i => (i.zero, i.size, i.bytes)) = some (some (.agg #[.bool false, .string ⟨#[]⟩, .string ⟨#[]⟩, .int .i64 0, .int .i64 0]), 5, 56) := by kernel_rfl

theorem RdR.bad {w : World} {x g : Nat} {l : List UInt8} {st st' : Option (List UInt8)} {bad : Bool} (hb : Blk w x 89 #[.pointer (some ⟨g, 0, none⟩), .bool bad]) (hp : PkR w g l st') (hs : (bad = false ∧ st' = st) ∨ (bad = true ∧ st = none)) (b : Bool) (P : Prop) [Decidable P] (h : b = true ↔ bad = true ∨ P) :
    RdR (w.setCell ⟨x, 1, none⟩ (.bool b)) x g l (if P then none else st) := by
  refine ⟨b, st', hb.set_ 1 _, hp.far hb (by decide) (by decide) _, ?_⟩
  cases b with
  | true =>
    refine .inr ⟨rfl, ?_⟩
    by_cases hP : P
    · rw [if_pos hP]
    · rw [if_neg hP]
      rcases hs with ⟨h1, rfl⟩ | ⟨_, h2⟩
      · rcases h.1 rfl with h2 | h2
        · rw [h1] at h2; cases h2
        · exact absurd h2 hP
      · exact h2
  | false =>
    have hn : ¬ (bad = true ∨ P) := fun k => by have := h.2 k; cases this
    rw [if_neg (fun k => hn (.inr k))]
    rcases hs with ⟨_, rfl⟩ | ⟨h1, _⟩
    · exact .inl ⟨rfl, rfl⟩
    · exact absurd (.inl h1) hn

def opS (st : Option (List UInt8)) : Option (List UInt8) := (st.bind opAt).map Prod.snd
def opOk (st : Option (List UInt8)) (o : OpV) : Prop := ∀ p, st.bind opAt = some p → o = p.1
theorem op_bad {st : Option (List UInt8)} {v : Int} (h : SmallOk st v) (hv : 1 < v) : opS st = none ∧ ∀ o, opOk st o := by
  cases st with
  | none => exact ⟨rfl, fun o p hp => by cases hp⟩
  | some l =>
    have e1 : ∀ p, smallAt l = some p → v = p.1 := fun p hp => h.2 p (by rw [Option.bind_some, hp])
    have hn : opAt l = none := by
      unfold opAt
      cases hm : numAt l with
      | none => rfl
      | some m =>
        rw [Option.bind_some]
        by_cases h1 : 1 < m.1
        · rw [if_pos h1]
        · exfalso
          have := e1 m (by unfold smallAt; rw [hm, Option.bind_some, if_pos (by omega)])
          omega
    unfold opS opOk
    rw [Option.bind_some, hn]
    exact ⟨rfl, fun o p hp => by cases hp⟩
theorem small_num {l : List UInt8} {m : Int × List UInt8} (h : numAt l = some m) (h1 : ¬ 1 < m.1) : smallAt l = some m := by
  unfold smallAt; rw [h, Option.bind_some, if_pos (by omega)]
theorem small_none {l : List UInt8} (h : numAt l = none) : smallAt l = none := by unfold smallAt; rw [h]; rfl
theorem op_of {st : Option (List UInt8)} {v : Int} {s t : ByteArray} {ck cv : Int} (h : SmallOk st v) (hv : ¬ 1 < v) (hs : TextOk 20000 (smallS st) s)
    (ht : v ≠ 1 → TextOk 20000 (textS 20000 (smallS st)) t) (hc : CondOk (if v = 1 then textS 20000 (smallS st) else textS 20000 (textS 20000 (smallS st))) ck cv) :
    opS st = condS (if v = 1 then textS 20000 (smallS st) else textS 20000 (textS 20000 (smallS st))) ∧ opOk st ⟨decide (v = 1), s.data.toList, if v = 1 then [] else t.data.toList, ck, cv⟩ := by
  cases st with
  | none =>
    refine ⟨?_, fun p hp => by cases hp⟩
    split <;> rfl
  | some l =>
    have e1 : ∀ p, smallAt l = some p → v = p.1 := fun p hp => h.2 p (by rw [Option.bind_some, hp])
    unfold opS opOk
    rw [Option.bind_some]
    cases hm : numAt l with
    | none =>
      have k1 : smallS (some l) = none := by unfold smallS; rw [Option.bind_some, small_none hm]; rfl
      have k2 : opAt l = none := by unfold opAt; rw [hm]; rfl
      rw [k1, k2]
      refine ⟨?_, fun p hp => by cases hp⟩
      split <;> rfl
    | some m =>
      by_cases h1 : 1 < m.1
      · have k2 : opAt l = none := by unfold opAt; rw [hm, Option.bind_some, if_pos h1]
        have k1 : smallS (some l) = none := by
          unfold smallS
          rw [Option.bind_some]
          cases hq : smallAt l with
          | none => rfl
          | some p =>
            exfalso
            have hv2 := e1 p hq
            unfold smallAt at hq
            rw [hm, Option.bind_some] at hq
            split at hq
            · injection hq with hq; rw [hq] at h1; omega
            · cases hq
        rw [k1, k2]
        refine ⟨?_, fun p hp => by cases hp⟩
        split <;> rfl
      · have hsm := small_num hm h1
        have hvm : v = m.1 := e1 m hsm
        have k1 : smallS (some l) = some m.2 := by unfold smallS; rw [Option.bind_some, hsm]; rfl
        rw [k1] at hs ht hc ⊢
        have k2 : opAt l = (textAt 20000 m.2).bind fun u => if m.1 = 1 then (condAt u.2).bind fun c => some (⟨true, u.1, [], c.1.1, c.1.2⟩, c.2) else (textAt 20000 u.2).bind fun t => (condAt t.2).bind fun c => some (⟨false, u.1, t.1, c.1.1, c.1.2⟩, c.2) := by
          unfold opAt; rw [hm, Option.bind_some, if_neg h1]
        rw [k2, ← hvm]
        unfold TextOk at hs
        rw [Option.bind_some] at hs
        have es := hs.2
        have k3 : textS 20000 (some m.2) = (textAt 20000 m.2).map Prod.snd := by unfold textS; rw [Option.bind_some]
        rw [k3] at ht hc ⊢
        cases hu : textAt 20000 m.2 with
        | none => exact ⟨by split <;> rfl, fun p hp => by cases hp⟩
        | some u =>
          rw [hu] at ht hc
          have es := es u hu
          rw [Option.bind_some, Option.map_some]
          rw [Option.map_some] at ht hc
          by_cases hv1 : v = 1
          · rw [if_pos hv1, if_pos hv1, if_pos hv1, decide_eq_true hv1]
            rw [if_pos hv1] at hc
            have ec := hc.2.2
            rw [Option.bind_some] at ec
            have k4 : condS (some u.2) = (condAt u.2).map Prod.snd := by unfold condS; rw [Option.bind_some]
            rw [k4]
            cases hcc : condAt u.2 with
            | none => exact ⟨rfl, fun p hp => by cases hp⟩
            | some c =>
              have ec := ec c hcc
              refine ⟨rfl, fun p hp => ?_⟩
              rw [Option.bind_some] at hp
              injection hp with hp
              rw [← hp, es, ← ec]
          · rw [if_neg hv1, if_neg hv1, if_neg hv1, decide_eq_false hv1]
            rw [if_neg hv1] at hc
            have ht := ht hv1
            unfold TextOk at ht
            rw [Option.bind_some] at ht
            have et := ht.2
            have k5 : textS 20000 (some u.2) = (textAt 20000 u.2).map Prod.snd := by unfold textS; rw [Option.bind_some]
            rw [k5] at hc ⊢
            cases htt : textAt 20000 u.2 with
            | none => exact ⟨rfl, fun p hp => by cases hp⟩
            | some t' =>
              rw [htt] at hc
              have et := et t' htt
              rw [Option.map_some] at hc
              have ec := hc.2.2
              rw [Option.bind_some] at ec
              rw [Option.bind_some, Option.map_some]
              have k4 : condS (some t'.2) = (condAt t'.2).map Prod.snd := by unfold condS; rw [Option.bind_some]
              rw [k4]
              cases hcc : condAt t'.2 with
              | none => exact ⟨rfl, fun p hp => by cases hp⟩
              | some c =>
                have ec := ec c hcc
                refine ⟨rfl, fun p hp => ?_⟩
                rw [Option.bind_some] at hp
                injection hp with hp
                rw [← hp, es, et, ← ec]

/-- What is left behind the number of writes; behind k of them. -/
def ops0 (st : Option (List UInt8)) (v : Int) : Option (List UInt8) := if 16 < v then none else smallS st
def opsK (k : Nat) (st0 : Option (List UInt8)) : Option (List UInt8) := (st0.bind (opsN k)).map Prod.snd
def opsOk (k : Nat) (st0 : Option (List UInt8)) (L : List OpV) : Prop := ∀ p, st0.bind (opsN k) = some p → L = p.1
theorem opsK_0 (st0 : Option (List UInt8)) : opsK 0 st0 = st0 ∧ opsOk 0 st0 [] := by
  cases st0 with
  | none => exact ⟨rfl, fun p hp => by cases hp⟩
  | some l =>
    unfold opsK opsOk
    rw [Option.bind_some, opsN]
    exact ⟨rfl, fun p hp => by injection hp with hp; rw [← hp]⟩
theorem opsK_succ {k : Nat} {st0 : Option (List UInt8)} {L : List OpV} {o : OpV} (h : opsOk k st0 L) (ho : opOk (opsK k st0) o) : opsK (k + 1) st0 = opS (opsK k st0) ∧ opsOk (k + 1) st0 (L ++ [o]) := by
  cases st0 with
  | none => exact ⟨rfl, fun p hp => by cases hp⟩
  | some l =>
    unfold opsK opsOk at *
    simp only [Option.bind_some] at *
    rw [opsN]
    cases hn : opsN k l with
    | none => exact ⟨rfl, fun p hp => by cases hp⟩
    | some q =>
      have e := h q hn
      rw [hn, Option.map_some] at ho
      unfold opOk at ho
      rw [Option.bind_some] at ho
      rw [Option.bind_some, Option.map_some]
      unfold opS
      rw [Option.bind_some]
      cases hq : opAt q.2 with
      | none => exact ⟨rfl, fun p hp => by cases hp⟩
      | some r =>
        refine ⟨rfl, fun p hp => ?_⟩
        rw [Option.bind_some] at hp
        injection hp with hp
        rw [← hp, e, ho r hq]
theorem opsN_none {l : List UInt8} {k : Nat} (h : opsN k l = none) : ∀ m, k ≤ m → opsN m l = none
  | 0, hm => by obtain rfl : k = 0 := by omega
                exact h
  | m + 1, hm => by
    by_cases e : k = m + 1
    · rw [← e]; exact h
    · rw [opsN, opsN_none h m (by omega)]; rfl
theorem opsK_none {st0 : Option (List UInt8)} {k m : Nat} (h : opsK k st0 = none) (hm : k ≤ m) : opsK m st0 = none := by
  cases st0 with
  | none => rfl
  | some l =>
    unfold opsK at *
    rw [Option.bind_some] at *
    have : opsN k l = none := by
      cases hk : opsN k l with
      | none => rfl
      | some p => rw [hk] at h; cases h
    rw [opsN_none this m hm]; rfl
def opsS (st : Option (List UInt8)) : Option (List UInt8) := (st.bind opsAt).map Prod.snd
def OpsOk (st : Option (List UInt8)) (L : List OpV) : Prop := ∀ p, st.bind opsAt = some p → L = p.1
theorem ops_of {st : Option (List UInt8)} {v : Int} (h : SmallOk st v) : opsS st = opsK v.toNat (ops0 st v) ∧ ∀ L, opsOk v.toNat (ops0 st v) L → OpsOk st L := by
  cases st with
  | none =>
    refine ⟨?_, fun L _ p hp => by cases hp⟩
    unfold ops0
    split <;> rfl
  | some l =>
    have e1 : ∀ p, smallAt l = some p → v = p.1 := fun p hp => h.2 p (by rw [Option.bind_some, hp])
    unfold opsS OpsOk ops0 smallS opsAt
    rw [Option.bind_some, Option.bind_some]
    cases hm : smallAt l with
    | none =>
      refine ⟨?_, fun L _ p hp => by cases hp⟩
      split <;> rfl
    | some m =>
      have e := e1 m hm
      rw [Option.bind_some, ← e]
      by_cases h16 : 16 < v
      · rw [if_pos h16, if_pos h16]; exact ⟨rfl, fun L _ p hp => by cases hp⟩
      · rw [if_neg h16, if_neg h16]
        unfold opsK opsOk
        rw [Option.map_some, Option.bind_some]
        exact ⟨rfl, fun L hL p hp => hL p hp⟩
theorem ops_dead {st : Option (List UInt8)} {v : Int} (h : SmallOk st v) {k : Nat} (hk : k ≤ v.toNat) (hd : opsK k (ops0 st v) = none) : opsS st = none ∧ ∀ L, OpsOk st L := by
  obtain ⟨h1, h2⟩ := ops_of h
  have h3 := opsK_none hd hk
  refine ⟨h1.trans h3, fun L => h2 L (fun p hp => ?_)⟩
  unfold opsK at h3
  rw [hp] at h3
  cases h3

end Go.Proofs.YtogjokofmfpmgaaGreatDoor
