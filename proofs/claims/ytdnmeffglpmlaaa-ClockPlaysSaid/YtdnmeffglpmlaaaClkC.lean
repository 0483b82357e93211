/-
  The clock's All: whose alarms are due, by time, then by number.
-/
import Derived.Test.YtdnmeffglpmlaaaClkB
namespace Go.Proofs.Ytdnmeffglpmlaaa
open Go.RowKit

/-- By time, then by number. -/
def alLt (x y : Int × Int) : Bool := decide (x.2 < y.2) || (decide (x.2 = y.2) && decide (x.1 < y.1))

/-- What the sort does: proved elsewhere. -/
def SortAl : Prop := ∀ (w : World) (S : Nat → Prop) (A : Option Addr) (n c : Nat) (l : Al), n = l.length → Row w S 47 2 A n c (alEnc l) → n ≤ 1000000 →
  Calls Try.prog 25 #[.slice A n c, .func (.func 26) #[] #[]] w fun e w' => e = .returned (.tuple #[]) ∧ ∃ l' : Al, l'.Perm l ∧ l'.Pairwise (fun x y => alLt y x = false) ∧ Row w' S 47 2 A n c (alEnc l') ∧ Chg (Of A) w w'

def intEnc (l : List Int) : List Value := l.map (Value.int .i64)

def dueOf (now : Int) (al : Al) : Al := al.filter fun x => decide (x.2 ≤ now)

theorem dueOf_snoc (now : Int) (al : Al) (k : Nat) (hk : k < al.length) : dueOf now (al.take (k + 1)) = dueOf now (al.take k) ++ (if (al[k]?.getD (0, 0)).2 ≤ now then [al[k]?.getD (0, 0)] else []) := by
  rw [List.take_succ_eq_append_getElem hk]
  unfold dueOf
  rw [List.filter_append]
  simp only [List.filter_cons, List.filter_nil, List.getElem?_eq_getElem hk, Option.getD_some, decide_eq_true_eq]

theorem alInfo : (Try.prog.info? 3).map (fun i => (i.zero, i.size, i.bytes)) = some (some (.int .i64 0), 1, 8) := by kernel_rfl

set_option maxHeartbeats 600000 in
set_option maxRecDepth 100000 in
theorem all_calls (hsort : SortAl) (w : World) (S : Nat → Prop) (b : Nat) (now : Int) (al : Al) (h : Clk w S b now al) (hl : al.length ≤ 1000000) :
    Calls Try.prog 21 #[.pointer (some ⟨b, 0, none⟩)] w fun e w' => ∃ (l : Al) (A : Option Addr) (c : Nat), e = .returned (.slice A l.length c) ∧ l.Perm (dueOf now al) ∧ l.Pairwise (fun x y => alLt y x = false) ∧ Row w' (From w.heap.size) 3 1 A l.length c (intEnc (l.map (·.1))) ∧ Below w.heap.size w w' := by
  obtain ⟨A, c, hb, hr, hS⟩ := h
  obtain ⟨i0, hi, hz0, hz1, hz2⟩ := info_parts delAlarm_info
  obtain ⟨n, hn⟩ : ∃ n, n = al.length := ⟨_, rfl⟩
  rw [← hn] at hr hb hl
  have hcap := hr.cap
  unfold maxLen at hcap
  have HN := hd hn
  clear hn
  have hb0 := hb.at_ 0 rfl
  have hb1 := hb.at_ 1 rfl
  have hbl := hb.lt
  have HB := hd hb
  clear hb
  go_enter Try.func21, Try.ntmps21
  go_wp2
  go_loopw [3, 5, 14] (fun due _ i wr => ∃ (k : Nat) (A' : Option Addr) (c' m : Nat), i = .int .i64 k ∧ k ≤ n ∧ due = .slice A' m c' ∧ m ≤ k ∧ Hd (m = (dueOf now (al.take k)).length) ∧ Row wr (From w.heap.size) 47 2 A' m c' (alEnc (dueOf now (al.take k))) ∧ Below w.heap.size w wr) (fun _ _ i _ => n - (intOf i).toNat)
  case atStart => exact ⟨0, none, 0, 0, rfl, Nat.zero_le _, rfl, Nat.le_refl _, rfl, Row.nil _ _ _ _, Below.refl _ _⟩
  case round =>
    obtain ⟨k, A', c', m, rfl, hk, rfl, hm, HM, hr', hbe⟩ := hrel
    by_cases hlt : k < n
    · obtain ⟨g, rfl, _, hg, _, _, hcell, _⟩ := hr.at_ (by omega)
      have hc := alEnc_get al k (by rw [← HN.o]; exact hlt)
      have h1 := (hbe.cell (p := ⟨g, k * 2, none⟩) hg).trans (hcell _ _ hc.1)
      have h2 := (hbe.cell (p := ⟨g, k * 2 + 1, none⟩) hg).trans (hcell _ _ hc.2)
      have hb0' := (hbe.cell (p := ⟨b, 0, none⟩) hbl).trans hb0
      have hsz := hbe.size
      obtain ⟨x, hx⟩ : ∃ x, (al[k]?.getD (0, 0)).1 = x := ⟨_, rfl⟩
      obtain ⟨y, hy⟩ : ∃ y, (al[k]?.getD (0, 0)).2 = y := ⟨_, rfl⟩
      rw [hx] at h1
      rw [hy] at h2
      have HX := hd hx
      have HY := hd hy
      clear hx hy hc hcell hr hb0 hb1
      have hbl' : b < wr.heap.size := by omega
      have hsn := dueOf_snoc now al k (by rw [← HN.o]; exact hlt)
      have HSN := hd hsn
      clear hsn
      go_wp2
      go_quiet (fail)
      by_cases hle : y ≤ now
      · go_wp2_with (at_builtin; go_loud (refine wpList_append_row rfl _ _ 43 rfl (Of A') 47 i0 (.agg #[.int .i64 0, .int .i64 0]) 2 16 Try.underlying43 hi hz0 hz1 hz2 rfl A' m c' (alEnc (dueOf now (al.take k))) rfl (hr'.own_.alloc _ |>.drewN _ |>.alloc _) ⟨_, 0, none⟩ 1 1 [.int .i64 x, .int .i64 y] rfl rfl (cells_at (Blk.new_ _ _ (by simp) _ _) rfl) (by simp [Value.oneCell']) (by omega) (by unfold maxLen; omega) (by omega) ?_; intro A2 c2 w2 hown2 hchg2))
        go_roundw
        case rel =>
          have hne : dueOf now (al.take (k + 1)) = dueOf now (al.take k) ++ [(x, y)] := by
            rw [HSN.o, if_pos (by rw [HY.o]; exact hle), ← HX.o, ← HY.o]
          refine ⟨k + 1, A2, c2, m + 1, by go_num, by omega, rfl, by omega, ?_, ?_, ?_⟩
          · show m + 1 = _
            rw [hne, List.length_append, ← HM.o]; rfl
          · rw [hne, alEnc_snoc]
            refine hown2.mono fun q hq => ?_
            rcases hq with hq | hq
            · exact hr'.of_sub q hq
            · simp at hq; show w.heap.size ≤ q; omega
          · exact hbe.trans ((((((Chg.refl (From w.heap.size) wr).alloc _).drewN _).alloc _).trans hchg2 (fun q hq => .inl (hr'.of_sub q hq))).below (fun _ h => h) hsz)
        case measure => simp [intOf]; omega
      · go_wp2
        go_roundw
        case rel =>
          have hne : dueOf now (al.take (k + 1)) = dueOf now (al.take k) := by
            rw [HSN.o, if_neg (by rw [HY.o]; exact hle), List.append_nil]
          refine ⟨k + 1, A', c', m, by go_num, by omega, rfl, by omega, ?_, ?_, ?_⟩
          · show m = _
            rw [hne, ← HM.o]
          · rw [hne]
            exact (hr'.alloc _).drewN _
          · exact bdrewN (hbe.alloc hsz _) _
        case measure => simp [intOf]; omega
    · obtain rfl : k = n := by omega
      have hdue : dueOf now (al.take k) = dueOf now al := by rw [List.take_of_length_le (by rw [← HN.o]; exact Nat.le_refl _)]
      rw [hdue] at hr' HM
      go_wp2_with fail
      refine (hsort wr _ A' m c' _ HM.o hr' (by omega)).mono ?_
      rintro e w1 ⟨rfl, l, hperm, hsorted, hr1, hchg1⟩
      go_wp2
      have hlen : l.length = m := by rw [hperm.length_eq, ← HM.o]
      have HLEN := hd hlen
      clear hlen
      have hbe1 : Below w.heap.size w w1 := hbe.trans ((hchg1.mono hr'.of_sub).below (fun _ h => h) hbe.size)
      obtain ⟨j0, hj, hy0, hy1, hy2⟩ := info_parts alInfo
      have hcap' := hr1.cap
      unfold maxLen at hcap'
      clear hr' hchg1 hr hb0 hb1 HB
      go_loopw [6, 8, 34] (fun out _ i wr => ∃ (k : Nat) (Ao : Option Addr) (co : Nat), i = .int .i64 k ∧ k ≤ m ∧ out = .slice Ao k co ∧ Row wr (From w.heap.size) 3 1 Ao k co (intEnc ((l.take k).map (·.1))) ∧ Row wr (From w.heap.size) 47 2 A' m c' (alEnc l) ∧ Below w.heap.size w wr) (fun _ _ i _ => m - (intOf i).toNat)
      case atStart => exact ⟨0, none, 0, rfl, Nat.zero_le _, rfl, Row.nil _ _ _ _, hr1, hbe1⟩
      case round =>
        obtain ⟨j, Ao, co, rfl, hjm, rfl, hro, hrl, hbe2⟩ := hrel
        by_cases hlt : j < m
        · obtain ⟨g, rfl, _, hg, _, _, hcell, _⟩ := hrl.at_ (by omega)
          have hc := alEnc_get l j (by rw [HLEN.o]; exact hlt)
          have h1 := hcell _ _ hc.1
          have h2 := hcell _ _ hc.2
          have hsz := hbe2.size
          obtain ⟨x, hx⟩ : ∃ x, (l[j]?.getD (0, 0)).1 = x := ⟨_, rfl⟩
          obtain ⟨y, hy⟩ : ∃ y, (l[j]?.getD (0, 0)).2 = y := ⟨_, rfl⟩
          rw [hx] at h1
          rw [hy] at h2
          have HX := hd hx
          clear hx hy hc hcell hr1
          have hap := hd (hro.apart hrl (by decide))
          go_wp2_with (at_builtin; go_loud (refine wpList_append_row rfl _ _ 27 rfl (Of Ao) 3 j0 (.int .i64 0) 1 8 Try.underlying27 hj hy0 hy1 hy2 rfl Ao j co (intEnc ((l.take j).map (·.1))) rfl ((hro.own_.alloc _).alloc _) ⟨_, 0, none⟩ 1 1 [.int .i64 x] rfl rfl (cells_at (Blk.new_ _ _ (by simp) _ _) rfl) (by simp [Value.oneCell']) (by omega) (by unfold maxLen; omega) (by omega) ?_; intro A2 c2 w2 hown2 hchg2))
          go_roundw
          case rel =>
            have htk : (l.take (j + 1)).map (·.1) = (l.take j).map (·.1) ++ [x] := by
              have hjl : j < l.length := by rw [HLEN.o]; exact hlt
              rw [List.take_succ_eq_append_getElem hjl, List.map_append, ← HX.o]
              simp [List.getElem?_eq_getElem hjl]
            refine ⟨j + 1, A2, c2, by go_num, by omega, rfl, ?_, ?_, ?_⟩
            · rw [htk, intEnc, List.map_append]
              refine hown2.mono fun q hq => ?_
              rcases hq with hq | hq
              · exact hro.of_sub q hq
              · simp at hq; show w.heap.size ≤ q; omega
            · exact ((hrl.alloc _).alloc _).own_.chg hchg2 (fun q hq hq' => hap.o q hq' hq) |>.mono hrl.of_sub
            · exact hbe2.trans (((((Chg.refl (From w.heap.size) wr).alloc _).alloc _).trans hchg2 (fun q hq => .inl (hro.of_sub q hq))).below (fun _ h => h) hsz)
          case measure => simp [intOf]; omega
        · obtain rfl : j = m := by omega
          go_wp2
          go_ret
          have htk : l.take j = l := List.take_of_length_le (by rw [HLEN.o]; exact Nat.le_refl _)
          rw [htk] at hro
          refine ⟨l, Ao, co, ?_, hperm, hsorted, ?_, hbe2⟩
          · exact ret_val (a := .slice Ao j co) (by rw [HLEN.o])
          · rw [HLEN.o]; exact hro

end Go.Proofs.Ytdnmeffglpmlaaa
