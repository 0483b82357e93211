/-
  The reference's clock: its time, one's time, whether it is due.
-/
import Derived.Test.YtdnmeffglpmlaaaClkStays
import Derived.Test.YtdnmeffglpmlaaaInts
namespace Go.Proofs.Ytdnmeffglpmlaaa
open Go.RowKit

/-- The reference's clock: the same alarms, in two rows that lie apart. -/
def RClk (w : World) (S : Nat → Prop) (b : Nat) (now : Int) (al : Al) : Prop :=
  ∃ A1 c1 A2 c2, Blk w b 29 #[.int .i64 now, .slice A1 al.length c1, .slice A2 al.length c2] ∧ Row w S 3 1 A1 al.length c1 (iEnc (al.map (·.1))) ∧ Row w S 3 1 A2 al.length c2 (iEnc (al.map (·.2))) ∧ (∀ k, Of A1 k → ¬ Of A2 k) ∧ S b

theorem RClk.lt {w : World} {S : Nat → Prop} {b : Nat} {now : Int} {al : Al} (h : RClk w S b now al) : b < w.heap.size := by
  obtain ⟨A1, c1, A2, c2, hb, _⟩ := h
  exact hb.lt
theorem RClk.mono {w : World} {S T : Nat → Prop} {b : Nat} {now : Int} {al : Al} (h : RClk w S b now al) (hs : ∀ k, S k → T k) : RClk w T b now al := by
  obtain ⟨A1, c1, A2, c2, hb, h1, h2, h3, hS⟩ := h
  exact ⟨A1, c1, A2, c2, hb, h1.mono hs, h2.mono hs, h3, hs _ hS⟩
theorem RClk.chg {w w' : World} {S T : Nat → Prop} {b : Nat} {now : Int} {al : Al} (h : RClk w S b now al) (hc : Chg T w w') (hd : ∀ k, S k → ¬ T k) : RClk w' S b now al := by
  obtain ⟨A1, c1, A2, c2, hb, h1, h2, h3, hS⟩ := h
  exact ⟨A1, c1, A2, c2, hb.chg hc (hd _ hS), h1.chg hc hd, h2.chg hc hd, h3, hS⟩
theorem RClk.drew {w : World} {S : Nat → Prop} {b : Nat} {now : Int} {al : Al} (h : RClk w S b now al) : RClk w.drew S b now al := by
  obtain ⟨A1, c1, A2, c2, hb, h1, h2, h3, hS⟩ := h
  exact ⟨A1, c1, A2, c2, hb.drew, h1.drew, h2.drew, h3, hS⟩
theorem RClk.below {w w' : World} {S : Nat → Prop} {b : Nat} {now : Int} {al : Al} (h : RClk w S b now al) (hb : Below w.heap.size w w') : RClk w' S b now al :=
  h.chg (Chg.of_below Non hb) (fun _ _ => id)

theorem rtick_no (w : World) (S : Nat → Prop) (b : Nat) (now n : Int) (al : Al) (h : RClk w S b now al) (h1 : 0 ≤ now) (h2 : now ≤ 1099511627776) (hn : n < 0 ∨ 1099511627776 - now < n) :
    Calls Try.prog 10 #[.pointer (some ⟨b, 0, none⟩), .int .i64 n] w fun e w' => e = .returned (.bool false) ∧ w = w' := by
  obtain ⟨A1, c1, A2, c2, hb, _⟩ := h
  have hc := hb.at_ 0 rfl
  clear hb
  by_cases h' : n < 0
  · clear hn
    go_enter Try.func10, Try.ntmps10
    go_wp2
    go_ret
    exact ⟨rfl, rfl⟩
  · have hn' : 1099511627776 - now < n := by omega
    clear hn
    go_enter Try.func10, Try.ntmps10
    go_wp2
    go_ret
    exact ⟨rfl, rfl⟩
theorem rtick_yes (w : World) (S : Nat → Prop) (b : Nat) (now n : Int) (al : Al) (h : RClk w S b now al) (h1 : 0 ≤ now) (h2 : now ≤ 1099511627776) (h3 : 0 ≤ n) (h4 : n ≤ 1099511627776 - now) :
    Calls Try.prog 10 #[.pointer (some ⟨b, 0, none⟩), .int .i64 n] w fun e w' => e = .returned (.bool true) ∧ RClk w' S b (now + n) al ∧ Chg S w w' := by
  obtain ⟨A1, c1, A2, c2, hb, hr1, hr2, hap, hS⟩ := h
  have hc := hb.at_ 0 rfl
  have hf := hb.frozen 0
  go_enter Try.func10, Try.ntmps10
  go_wp2
  go_ret
  exact ⟨rfl, ⟨A1, c1, A2, c2, hb.set_ 0 _, hr1.far (hr1.ne_blk hb (by decide)) _, hr2.far (hr2.ne_blk hb (by decide)) _, hap, hS⟩, (Chg.refl _ _).setCell (.inl hS) _⟩
theorem rtick_calls (w : World) (S : Nat → Prop) (b : Nat) (now n : Int) (al : Al) (h : RClk w S b now al) (h1 : 0 ≤ now) (h2 : now ≤ 1099511627776) :
    Calls Try.prog 10 #[.pointer (some ⟨b, 0, none⟩), .int .i64 n] w fun e w' => e = .returned (.bool (okTick now n)) ∧ RClk w' S b (nowAfter now n) al ∧ Chg S w w' := by
  by_cases h3 : 0 ≤ n ∧ n ≤ 1099511627776 - now
  · rw [okTick_yes h3.1 h3.2, nowAfter_yes h3.1 h3.2]
    exact rtick_yes w S b now n al h h1 h2 h3.1 h3.2
  · have e : okTick now n = false := by
      cases hh : okTick now n with
      | false => rfl
      | true => simp [okTick] at hh; exact absurd hh h3
    rw [nowAfter, e, if_neg (by simp)]
    refine (rtick_no w S b now n al h h1 h2 (by omega)).mono ?_
    rintro e w' ⟨rfl, rfl⟩
    exact ⟨rfl, h, Chg.refl _ _⟩

theorem al_fst (al : Al) (k : Nat) (h : k < al.length) : (iEnc (al.map (·.1)))[k]? = some (.int .i64 (al[k]?.getD (0, 0)).1) := by simp [iEnc, h]
theorem al_snd (al : Al) (k : Nat) (h : k < al.length) : (iEnc (al.map (·.2)))[k]? = some (.int .i64 (al[k]?.getD (0, 0)).2) := by simp [iEnc, h]
theorem atOf_here (al : Al) (who : Int) (k : Nat) (hk : k < al.length) (h : ∀ j, j < k → (al[j]?.getD (0, 0)).1 ≠ who) (hh : (al[k]?.getD (0, 0)).1 = who) : atPair al who = #[.int .i64 (al[k]?.getD (0, 0)).2, .bool true] := by
  simp [atPair, atOf, posOf_some al who k hk h hh]
theorem atOf_nowhere (al : Al) (who : Int) (h : ∀ j, j < al.length → (al[j]?.getD (0, 0)).1 ≠ who) : atPair al who = #[.int .i64 0, .bool false] := by
  have := posInt_none al who h
  unfold posInt at this
  cases hp : posOf al who with
  | none => simp [atPair, atOf, hp]
  | some i => rw [hp] at this; simp at this

set_option maxHeartbeats 1000000 in
theorem rat_calls (w : World) (S : Nat → Prop) (b : Nat) (now who : Int) (al : Al) (h : RClk w S b now al) :
    Calls Try.prog 16 #[.pointer (some ⟨b, 0, none⟩), .int .i64 who] w fun e w' => e = .returned (.tuple (atPair al who)) ∧ w = w' := by
  obtain ⟨A1, c1, A2, c2, hb, hr1, hr2, hap, hS⟩ := h
  have hb1 := hb.at_ 1 rfl
  have hb2 := hb.at_ 2 rfl
  obtain ⟨V, hV⟩ : ∃ V, Value.tuple (atPair al who) = V := ⟨_, rfl⟩
  rw [hV]
  have HV := hd hV
  obtain ⟨n, hn⟩ : ∃ n, al.length = n := ⟨_, rfl⟩
  rw [hn] at hb1 hb2 hr1 hr2
  have hcap := hr1.cap
  unfold maxLen at hcap
  have HN := hd hn
  clear hn hV hb
  go_enter Try.func16, Try.ntmps16
  go_wp2
  go_loop [6] (fun i => ∃ k : Nat, i = .int .i64 k ∧ k ≤ n ∧ Hd (∀ j, j < k → (al[j]?.getD (0, 0)).1 ≠ who)) (fun i => n - (intOf i).toNat)
  case atStart => exact ⟨0, rfl, Nat.zero_le _, fun j hj => absurd hj (Nat.not_lt_zero _)⟩
  case round =>
    obtain ⟨k, rfl, hk, hh⟩ := hrel
    have hki : (0 : Int) ≤ (k : Int) := by omega
    by_cases hlt : k < n
    · obtain ⟨g1, rfl, _, hg1, _, _, hc1, _⟩ := hr1.at_ (by omega)
      obtain ⟨g2, rfl, _, hg2, _, _, hc2, _⟩ := hr2.at_ (by omega)
      have x1 := hc1 _ _ (al_fst al k (by rw [HN.o]; exact hlt))
      have x2 := hc2 _ _ (al_snd al k (by rw [HN.o]; exact hlt))
      obtain ⟨x, hx⟩ : ∃ x, (al[k]?.getD (0, 0)).1 = x := ⟨_, rfl⟩
      obtain ⟨y, hy⟩ : ∃ y, (al[k]?.getD (0, 0)).2 = y := ⟨_, rfl⟩
      rw [hx] at x1
      rw [hy] at x2
      have HX := hd hx
      have HY := hd hy
      clear hx hy hc1 hc2 hr1 hr2 hap
      by_cases hw : x = who
      · have nb : (x == who) = true := by simpa using hw
        have HW := hd hw
        clear hw
        go_wp2
        go_ret2
        refine ⟨?_, rfl⟩
        rw [← HV.o, atOf_here al who k (by rw [HN.o]; exact hlt) hh.o (HX.o.trans HW.o), HY.o]
        rfl
      · have nb : (x == who) = false := by simpa using hw
        have HNX : Hd (∀ j, j < k + 1 → (al[j]?.getD (0, 0)).1 ≠ who) := fun j hj => by
          by_cases e : j = k
          · subst e; rw [HX.o]; exact hw
          · exact hh.o j (by omega)
        clear hw
        go_wp2
        go_round
        case rel => exact ⟨k + 1, by go_num, by omega, HNX⟩
        case measure => simp [intOf]; omega
    · have hke : k = n := by omega
      have HE := hd (atOf_nowhere al who (by rw [HN.o, ← hke]; exact hh.o))
      clear hke
      go_wp2
      go_ret2
      refine ⟨?_, rfl⟩
      rw [← HV.o, HE.o]
      rfl

theorem rdue_calls (w : World) (S : Nat → Prop) (b : Nat) (now who : Int) (al : Al) (h : RClk w S b now al) :
    Calls Try.prog 19 #[.pointer (some ⟨b, 0, none⟩), .int .i64 who] w fun e w' => e = .returned (.bool (dueB al who now)) ∧ w = w' := by
  have HC := hd (rat_calls w S b now who al h)
  obtain ⟨A1, c1, A2, c2, hb, _⟩ := h
  have hb0 := hb.at_ 0 rfl
  clear hb
  unfold dueB
  cases ha : atOf al who with
  | none =>
    have e : atPair al who = #[.int .i64 0, .bool false] := by simp [atPair, ha]
    rw [e] at HC
    clear ha e
    go_enter Try.func19, Try.ntmps19
    go_wp2_with fail
    refine HC.o.mono ?_
    rintro e w' ⟨rfl, rfl⟩
    go_wp2_with fail
    go_ret
    exact ⟨rfl, rfl⟩
  | some y =>
    have e : atPair al who = #[.int .i64 y, .bool true] := by simp [atPair, ha]
    rw [e] at HC
    clear ha e
    go_enter Try.func19, Try.ntmps19
    go_wp2_with fail
    refine HC.o.mono ?_
    rintro e w' ⟨rfl, rfl⟩
    go_wp2_with fail
    go_ret
    exact ⟨rfl, rfl⟩

end Go.Proofs.Ytdnmeffglpmlaaa
