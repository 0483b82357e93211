/-
  The clock's alarms: one's place among them (slices.IndexFunc at alarms), the calls of clock that read.
-/
import Derived.Test.YtdnmeffglpmlaaaBase
import Derived.Test.YtdnmeffglpmlaaaProg
import Derived.BigQuiet
import Derived.Deep.QuietTactic
import Derived.Outline
namespace Go.Proofs.Ytdnmeffglpmlaaa
open Go.RowKit

abbrev Al := List (Int × Int)
def alEnc (al : Al) : List Value := al.flatMap fun x => [.int .i64 x.1, .int .i64 x.2]
theorem alEnc_len (al : Al) : (alEnc al).length = al.length * 2 := by
  induction al with
  | nil => rfl
  | cons a l ih => simp [alEnc, List.flatMap_cons] at ih ⊢; omega
theorem alEnc_get (al : Al) : ∀ k, k < al.length → (alEnc al)[k * 2]? = some (.int .i64 (al[k]?.getD (0, 0)).1) ∧ (alEnc al)[k * 2 + 1]? = some (.int .i64 (al[k]?.getD (0, 0)).2) := by
  induction al with
  | nil => intro k hk; simp at hk
  | cons a l ih =>
    intro k hk
    cases k with
    | zero => simp [alEnc, List.flatMap_cons]
    | succ k =>
      have h := ih k (by simpa using hk)
      have e : (k + 1) * 2 = k * 2 + 2 := by omega
      have e' : k * 2 + 2 + 1 = k * 2 + 1 + 2 := by omega
      simp only [alEnc, List.flatMap_cons] at h ⊢
      rw [e]
      constructor
      · simpa using h.1
      · rw [e']; simpa using h.2

/-- Whose place: the first alarm of who. -/
def posOf (al : Al) (who : Int) : Option Nat := al.findIdx? fun x => x.1 == who
def posInt (al : Al) (who : Int) : Int := match posOf al who with | some i => (i : Int) | none => -1
theorem posInt_none (al : Al) (who : Int) (h : ∀ j, j < al.length → (al[j]?.getD (0, 0)).1 ≠ who) : posInt al who = -1 := by
  have : posOf al who = none := by
    rw [posOf, List.findIdx?_eq_none_iff]
    intro x hx
    obtain ⟨j, hj, rfl⟩ := List.getElem_of_mem hx
    have := h j hj
    simp [hj] at this ⊢
    exact this
  simp [posInt, this]
theorem posOf_some (al : Al) (who : Int) (k : Nat) (hk : k < al.length) (h : ∀ j, j < k → (al[j]?.getD (0, 0)).1 ≠ who) (hh : (al[k]?.getD (0, 0)).1 = who) : posOf al who = some k := by
  rw [posOf, List.findIdx?_eq_some_iff_getElem]
  refine ⟨hk, by simpa [hk] using hh, fun j hj => ?_⟩
  have := h j hj
  simp [show j < al.length by omega] at this ⊢
  exact this
theorem posInt_some (al : Al) (who : Int) (k : Nat) (hk : k < al.length) (h : ∀ j, j < k → (al[j]?.getD (0, 0)).1 ≠ who) (hh : (al[k]?.getD (0, 0)).1 = who) : posInt al who = k := by
  simp [posInt, posOf_some al who k hk h hh]

theorem find1_calls (w : World) (B : Nat) (x who : Int) (y : Int) (hB : w.cell? ⟨B, 0, none⟩ = some (.int .i64 who)) (hl : B < w.heap.size) :
    Calls Try.prog 28 #[.agg #[.int .i64 x, .int .i64 y], .pointer (some ⟨B, 0, none⟩)] w fun e w' => e = .returned (.bool (x == who)) ∧ w.alloc (.cells #[.int .i64 x, .int .i64 y] 47) = w' := by
  go_enter Try.func28, Try.ntmps28
  go_wp2
  go_ret
  exact ⟨rfl, rfl⟩

set_option maxHeartbeats 400000 in
theorem idxf_calls (w : World) (S : Nat → Prop) (B : Nat) (who : Int) (al : Al) (A : Option Addr) (c : Nat) (hB : w.cell? ⟨B, 0, none⟩ = some (.int .i64 who)) (hl : B < w.heap.size) (hr : Row w S 47 2 A al.length c (alEnc al)) :
    Calls Try.prog 27 #[.slice A al.length c, .func (.func 28) #[] #[.pointer (some ⟨B, 0, none⟩)]] w fun e w' => e = .returned (.int .i64 (posInt al who)) ∧ Below w.heap.size w w' := by
  have hcap := hr.cap
  unfold maxLen at hcap
  obtain ⟨n, hn⟩ : ∃ n, n = al.length := ⟨_, rfl⟩
  have HN := hd hn
  rw [← hn] at hcap ⊢
  clear hn
  go_enter Try.func27, Try.ntmps27
  go_wp2
  go_loopw [5, 8] (fun _ i wr => ∃ k : Nat, i = .int .i64 k ∧ k ≤ n ∧ Below w.heap.size w wr ∧ Hd (∀ j, j < k → (al[j]?.getD (0, 0)).1 ≠ who)) (fun _ i _ => n - (intOf i).toNat)
  case atStart => exact ⟨0, rfl, by omega, Below.refl _ _, fun j hj => by omega⟩
  case round =>
    obtain ⟨k, rfl, hk, hbe, hno⟩ := hrel
    by_cases hlt : k < n
    · obtain ⟨g, rfl, _, hg, _, _, hcell, _⟩ := hr.at_ (by rw [← HN.o]; omega)
      have hc := alEnc_get al k (by rw [← HN.o]; exact hlt)
      have h1 := (hbe.cell (p := ⟨g, k * 2, none⟩) hg).trans (hcell _ _ hc.1)
      have h2 := (hbe.cell (p := ⟨g, k * 2 + 1, none⟩) hg).trans (hcell _ _ hc.2)
      have hB' := (hbe.cell (p := ⟨B, 0, none⟩) hl).trans hB
      have hl' : B < wr.heap.size := by have := hbe.size; omega
      generalize hx : (al[k]?.getD (0, 0)).1 = x at *
      generalize (al[k]?.getD (0, 0)).2 = y at *
      have HX := hd hx
      clear hx hc hcell hB hr
      go_wp2_with (go_at_call 28; refine (find1_calls wr B x who y hB' hl').mono ?_; rintro e w1 ⟨rfl, rfl⟩)
      · go_ret
        have hxw : (x == who) = true := by assumption
        exact ⟨ret_int (posInt_some al who k (by rw [← HN.o]; exact hlt) hno.o (by rw [HX.o]; simpa using hxw)).symm, hbe.alloc hbe.size _⟩
      · have hxw : (x == who) = false := by assumption
        go_roundw
        case rel => exact ⟨k + 1, by go_num, by omega, hbe.alloc hbe.size _, fun j hj => by
          rcases Nat.lt_or_ge j k with h | h
          · exact hno.o j h
          · obtain rfl : j = k := by omega
            rw [HX.o]; simpa using hxw⟩
        case measure => simp [intOf]; omega
    · go_wp2
      go_ret
      obtain rfl : k = n := by omega
      exact ⟨ret_int (posInt_none al who (fun j hj => hno.o j (by rw [HN.o]; exact hj))).symm, hbe⟩

/-- The clock at block b: the time and the alarms; its blocks lie in S. -/
def Clk (w : World) (S : Nat → Prop) (b : Nat) (now : Int) (al : Al) : Prop :=
  ∃ A c, Blk w b 45 #[.int .i64 now, .slice A al.length c] ∧ Row w S 47 2 A al.length c (alEnc al) ∧ S b

theorem Clk.lt {w : World} {S : Nat → Prop} {b : Nat} {now : Int} {al : Al} (h : Clk w S b now al) : b < w.heap.size := by
  obtain ⟨A, c, hb, _⟩ := h
  exact hb.lt
theorem Clk.mono {w : World} {S T : Nat → Prop} {b : Nat} {now : Int} {al : Al} (h : Clk w S b now al) (hs : ∀ k, S k → T k) : Clk w T b now al := by
  obtain ⟨A, c, hb, hr, hS⟩ := h
  exact ⟨A, c, hb, hr.mono hs, hs _ hS⟩
theorem Clk.chg {w w' : World} {S T : Nat → Prop} {b : Nat} {now : Int} {al : Al} (h : Clk w S b now al) (hc : Chg T w w') (hd : ∀ k, S k → ¬ T k) : Clk w' S b now al := by
  obtain ⟨A, c, hb, hr, hS⟩ := h
  exact ⟨A, c, hb.chg hc (hd _ hS), hr.chg hc hd, hS⟩
theorem Clk.drew {w : World} {S : Nat → Prop} {b : Nat} {now : Int} {al : Al} (h : Clk w S b now al) : Clk w.drew S b now al := by
  obtain ⟨A, c, hb, hr, hS⟩ := h
  exact ⟨A, c, hb.drew, hr.drew, hS⟩
theorem Clk.below {w w' : World} {S : Nat → Prop} {b : Nat} {now : Int} {al : Al} (h : Clk w S b now al) (hb : Below w.heap.size w w') : Clk w' S b now al :=
  h.chg (Chg.of_below Non hb) (fun _ _ => id)

theorem now_calls (w : World) (S : Nat → Prop) (b : Nat) (now : Int) (al : Al) (h : Clk w S b now al) :
    Calls Try.prog 17 #[.pointer (some ⟨b, 0, none⟩)] w fun e w' => e = .returned (.int .i64 now) ∧ w = w' := by
  obtain ⟨A, c, hb, _⟩ := h
  have h0 := hb.at_ 0 rfl
  clear hb
  go_enter Try.func17, Try.ntmps17
  go_wp2
  go_ret
  exact ⟨rfl, rfl⟩

theorem find_calls (w : World) (S : Nat → Prop) (b : Nat) (now who : Int) (al : Al) (h : Clk w S b now al) :
    Calls Try.prog 23 #[.pointer (some ⟨b, 0, none⟩), .int .i64 who] w fun e w' => e = .returned (.int .i64 (posInt al who)) ∧ Below w.heap.size w w' := by
  obtain ⟨A, c, hb, hr, _⟩ := h
  have hr1 := hr.alloc (.cells #[.int .i64 who] 3)
  have hb1 := (hb.alloc (.cells #[.int .i64 who] 3)).at_ 1 rfl
  have hB := (Blk.new w 3 #[.int .i64 who]).at_ 0 rfl
  have hmf : ∀ (fn : Fn) (first cap : Array Value) (w : World), (Instr.makeFunc fn first cap).run Try.prog w = .ok (.func fn first cap) w := fun _ _ _ _ => rfl
  go_enter Try.func23, Try.ntmps23
  go_wp2_with fail
  refine (idxf_calls _ S _ who al A c hB (by simp) hr1).mono ?_
  rintro e w1 ⟨rfl, hbe⟩
  go_wp2
  go_ret
  exact ⟨rfl, ((Below.refl _ w).alloc (Nat.le_refl _) _).trans (hbe.mono (by simp))⟩

def atOf (al : Al) (who : Int) : Option Int := (posOf al who).map fun i => (al[i]?.getD (0, 0)).2

def dueB (al : Al) (who now : Int) : Bool := match atOf al who with | some y => decide (y ≤ now) | none => false

theorem posOf_lt {al : Al} {who : Int} {i : Nat} (h : posOf al who = some i) : i < al.length := by
  rw [posOf, List.findIdx?_eq_some_iff_getElem] at h
  exact h.1

theorem at_none (w : World) (S : Nat → Prop) (b : Nat) (now who : Int) (al : Al) (h : Clk w S b now al) (hp : posOf al who = none) :
    Calls Try.prog 15 #[.pointer (some ⟨b, 0, none⟩), .int .i64 who] w fun e w' => e = .returned (.tuple #[.int .i64 0, .bool false]) ∧ Below w.heap.size w w' := by
  have hpi : posInt al who = -1 := by simp [posInt, hp]
  have HP := hd hpi
  clear hpi hp
  go_enter Try.func15, Try.ntmps15
  go_wp2_with fail
  refine (find_calls w S b now who al h).mono ?_
  rintro e w1 ⟨rfl, hbe⟩
  rw [HP.o]
  go_wp2
  go_ret2
  exact ⟨rfl, hbe⟩

theorem at_some (w : World) (S : Nat → Prop) (b : Nat) (now who : Int) (al : Al) (i : Nat) (h : Clk w S b now al) (hp : posOf al who = some i) :
    Calls Try.prog 15 #[.pointer (some ⟨b, 0, none⟩), .int .i64 who] w fun e w' => e = .returned (.tuple #[.int .i64 (al[i]?.getD (0, 0)).2, .bool true]) ∧ Below w.heap.size w w' := by
  have hpi : posInt al who = i := by simp [posInt, hp]
  have HP := hd hpi
  have hi := posOf_lt hp
  clear hpi hp
  have hc := alEnc_get al i hi
  obtain ⟨y, hy⟩ : ∃ y, (al[i]?.getD (0, 0)).2 = y := ⟨_, rfl⟩
  rw [hy] at hc ⊢
  clear hy
  go_enter Try.func15, Try.ntmps15
  go_wp2_with fail
  refine (find_calls w S b now who al h).mono ?_
  rintro e w1 ⟨rfl, hbe⟩
  rw [HP.o]
  obtain ⟨A, c, hb, hr, _⟩ := h.below hbe
  obtain ⟨g, rfl, _, hg, hnc, hcm, hcell, _⟩ := hr.at_ (by omega)
  have h1 := hcell _ _ hc.2
  have hb1 := hb.at_ 1 rfl
  generalize al.length = n at *
  unfold maxLen at hcm
  clear hc hcell hr hb h
  go_wp2
  go_ret2
  exact ⟨rfl, hbe⟩

theorem due_calls (w : World) (S : Nat → Prop) (b : Nat) (now who : Int) (al : Al) (h : Clk w S b now al) :
    Calls Try.prog 18 #[.pointer (some ⟨b, 0, none⟩), .int .i64 who] w fun e w' => e = .returned (.bool (dueB al who now)) ∧ Below w.heap.size w w' := by
  cases hp : posOf al who with
  | none =>
    have ha : dueB al who now = false := by simp [dueB, atOf, hp]
    rw [ha]
    clear ha
    go_enter Try.func18, Try.ntmps18
    go_wp2_with fail
    refine (at_none w S b now who al h hp).mono ?_
    rintro e w1 ⟨rfl, hbe⟩
    go_wp2
    go_ret
    exact ⟨rfl, hbe⟩
  | some i =>
    have ha : dueB al who now = decide ((al[i]?.getD (0, 0)).2 ≤ now) := by simp [dueB, atOf, hp]
    rw [ha]
    clear ha
    go_enter Try.func18, Try.ntmps18
    go_wp2_with fail
    refine (at_some w S b now who al i h hp).mono ?_
    rintro e w1 ⟨rfl, hbe⟩
    obtain ⟨A, c, hb, hr, _⟩ := h.below hbe
    have hb0 := hb.at_ 0 rfl
    clear hb hr h
    go_wp2
    go_ret
    exact ⟨rfl, hbe⟩

theorem tick_no (w : World) (S : Nat → Prop) (b : Nat) (now n : Int) (al : Al) (h : Clk w S b now al) (h1 : 0 ≤ now) (h2 : now ≤ 1099511627776) (hn : n < 0 ∨ 1099511627776 - now < n) :
    Calls Try.prog 9 #[.pointer (some ⟨b, 0, none⟩), .int .i64 n] w fun e w' => e = .returned (.bool false) ∧ w = w' := by
  obtain ⟨A, c, hb, _⟩ := h
  have hc := hb.at_ 0 rfl
  clear hb
  by_cases h' : n < 0
  · clear hn
    go_enter Try.func9, Try.ntmps9
    go_wp2
    go_ret
    exact ⟨rfl, rfl⟩
  · have hn' : 1099511627776 - now < n := by omega
    clear hn
    go_enter Try.func9, Try.ntmps9
    go_wp2
    go_ret
    exact ⟨rfl, rfl⟩

theorem tick_yes (w : World) (S : Nat → Prop) (b : Nat) (now n : Int) (al : Al) (h : Clk w S b now al) (h1 : 0 ≤ now) (h2 : now ≤ 1099511627776) (h3 : 0 ≤ n) (h4 : n ≤ 1099511627776 - now) :
    Calls Try.prog 9 #[.pointer (some ⟨b, 0, none⟩), .int .i64 n] w fun e w' => e = .returned (.bool true) ∧ Clk w' S b (now + n) al ∧ Chg S w w' := by
  obtain ⟨A, c, hb, hr, hS⟩ := h
  have hc := hb.at_ 0 rfl
  have hf := hb.frozen 0
  go_enter Try.func9, Try.ntmps9
  go_wp2
  go_ret
  exact ⟨rfl, ⟨A, c, hb.set_ 0 _, hr.far (hr.ne_blk hb (by decide)) _, hS⟩, (Chg.refl _ _).setCell (.inl hS) _⟩

theorem new_calls (w : World) (S : Nat → Prop) (hS : S w.heap.size) :
    Calls Try.prog 8 #[] w fun e w' => e = .returned (.pointer (some ⟨w.heap.size, 0, none⟩)) ∧ Clk w' S w.heap.size 0 [] ∧ Below w.heap.size w w' := by
  go_enter Try.func8, Try.ntmps8
  go_wp2
  go_ret
  exact ⟨rfl, ⟨none, 0, Blk.new _ _ _, Row.nil _ _ _ _, hS⟩, (Below.refl _ _).alloc (Nat.le_refl _) _⟩

end Go.Proofs.Ytdnmeffglpmlaaa
