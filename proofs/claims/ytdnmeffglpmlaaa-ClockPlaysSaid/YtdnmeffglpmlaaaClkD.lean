/-
  The clock's example, and the statement on ticks, as calls.
-/
import Derived.Test.YtdnmeffglpmlaaaClkC
import Derived.Test.YtdnmeffglpmlaaaInts
namespace Go.Proofs.Ytdnmeffglpmlaaa
open Go.RowKit

/-- Whether a tick is taken. -/
def okTick (now n : Int) : Bool := decide (0 ≤ n) && decide (n ≤ 1099511627776 - now)
def nowAfter (now n : Int) : Int := if okTick now n = true then now + n else now

theorem tick_calls (w : World) (S : Nat → Prop) (b : Nat) (now n : Int) (al : Al) (h : Clk w S b now al) (h1 : 0 ≤ now) (h2 : now ≤ 1099511627776) :
    Calls Try.prog 9 #[.pointer (some ⟨b, 0, none⟩), .int .i64 n] w fun e w' => e = .returned (.bool (okTick now n)) ∧ Clk w' S b (nowAfter now n) al ∧ Chg S w w' := by
  by_cases hok : 0 ≤ n ∧ n ≤ 1099511627776 - now
  · have e1 : okTick now n = true := by simp [okTick, hok]
    have e2 : nowAfter now n = now + n := by simp [nowAfter, e1]
    rw [e1, e2]
    exact tick_yes w S b now n al h h1 h2 hok.1 hok.2
  · have e1 : okTick now n = false := by
      cases h' : okTick now n with
      | false => rfl
      | true => exact absurd (by simpa [okTick] using h') hok
    have e2 : nowAfter now n = now := by simp [nowAfter, e1]
    rw [e1, e2]
    exact (tick_no w S b now n al h h1 h2 (by omega)).mono fun e w' ⟨he, hw⟩ => ⟨he, hw ▸ h, hw ▸ Chg.refl _ _⟩

theorem nowAfter_bd (now n : Int) (h1 : 0 ≤ now) (h2 : now ≤ 1099511627776) : 0 ≤ nowAfter now n ∧ nowAfter now n ≤ 1099511627776 := by
  unfold nowAfter
  split
  · rename_i h
    simp [okTick] at h
    omega
  · exact ⟨h1, h2⟩

set_option maxHeartbeats 400000 in
theorem first_calls (hsort : SortAl) (w : World) :
    Calls Try.prog 7 #[] w fun e w' => e = .returned (.bool true) ∧ Below w.heap.size w w' := by
  obtain ⟨j0, hj, hy0, hy1, hy2⟩ := info_parts alInfo
  go_enter Try.func7, Try.ntmps7
  go_wp2_with fail
  refine (new_calls w (From w.heap.size) (Nat.le_refl _)).mono ?_
  rintro e w1 ⟨rfl, k1, b1⟩
  obtain ⟨B, hB⟩ : ∃ B, B = w.heap.size := ⟨_, rfl⟩
  rw [← hB] at k1 b1 ⊢
  have HB := hd hB
  clear hB
  go_wp2_with fail
  refine (set_calls w1 (From B) B 0 1 5 [] k1 (by simp)).mono ?_
  rintro e w2 ⟨rfl, k2, c2⟩
  have k2' : Clk w2 (From B) B 0 (setAl [] 1 5) := k2.mono fun k hk => by
    have := b1.size
    rcases hk with hk | hk
    · exact hk
    · show B ≤ k; rw [HB.o]; omega
  go_wp2_with fail
  refine (tick_calls w2 (From B) B 0 4 _ k2' (by omega) (by omega)).mono ?_
  rintro e w3 ⟨rfl, k3, c3⟩
  rw [show nowAfter 0 4 = 4 from rfl] at k3
  rw [show okTick 0 4 = true from rfl]
  go_wp2_with fail
  refine (due_calls w3 (From B) B 4 1 _ k3).mono ?_
  rintro e w4 ⟨rfl, b4⟩
  rw [show dueB (setAl [] 1 5) 1 4 = false from rfl]
  go_wp2_with fail
  refine (tick_calls w4 (From B) B 4 1 _ (k3.below b4) (by omega) (by omega)).mono ?_
  rintro e w5 ⟨rfl, k5, c5⟩
  rw [show nowAfter 4 1 = 5 from rfl] at k5
  rw [show okTick 4 1 = true from rfl]
  go_wp2_with fail
  refine (due_calls w5 (From B) B 5 1 _ k5).mono ?_
  rintro e w6 ⟨rfl, b6⟩
  rw [show dueB (setAl [] 1 5) 1 5 = true from rfl]
  go_wp2_with fail
  refine (now_calls w6 (From B) B 5 _ (k5.below b6)).mono ?_
  rintro e w7 ⟨rfl, rfl⟩
  go_wp2_with fail
  refine (all_calls hsort w6 (From B) B 5 _ (k5.below b6) (by decide)).mono ?_
  rintro e w8 ⟨l, A, c, rfl, hp, _, hr, b8⟩
  have hl : l = [(1, 5)] := List.perm_singleton.1 hp
  subst hl
  have hcap := hr.cap
  unfold maxLen at hcap
  go_wp2_with fail
  refine (ints_calls _ A _ _ _ _ _ [1] [1] rfl rfl (hr.rds.alloc _) ⟨rfl, fun _ => ⟨w8.heap.size, 0, rfl, by simp, fun j u hu => ?_⟩⟩ (by decide) (by decide)).mono ?_
  · rw [Nat.zero_add]
    exact ((Blk.new w8 3 #[.int .i64 1]).cell j).trans (by simpa [iEnc] using hu)
  rintro e w9 ⟨rfl, b9⟩
  go_wp2
  go_ret
  refine ⟨rfl, ?_⟩
  rw [← HB.o]
  have hs1 := b1.size
  have hs2 := c2.size
  have hs3 := c3.size
  have hs4 := b4.size
  have hs5 := c5.size
  have hs6 := b6.size
  have hs8 := b8.size
  have hB1 : B ≤ w1.heap.size := by rw [HB.o]; omega
  refine b1.trans ((c2.below (fun _ h => h) hB1).trans ((c3.below (fun _ h => h) (by omega)).trans ((b4.mono (by omega)).trans ((c5.below (fun _ h => h) (by omega)).trans ((b6.mono (by omega)).trans ((b8.mono (by omega)).trans (((Below.refl _ w8).alloc (by omega) _).trans (b9.mono (by simp; omega)))))))))

end Go.Proofs.Ytdnmeffglpmlaaa
