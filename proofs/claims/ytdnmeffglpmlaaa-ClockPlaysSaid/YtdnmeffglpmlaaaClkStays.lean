/-
  ClockStays, as a call: it returns true, whatever the acts.
-/
import Derived.Test.YtdnmeffglpmlaaaClkD
import Derived.Test.YtdnmeffglpmlaaaClkP
import Derived.Laws.BitsLemmas
import Derived.StillTailTactics
namespace Go.Proofs.Ytdnmeffglpmlaaa
open Go.RowKit

theorem i64_and1023 (n : Int) : bits .and .i64 n 1023 = n % 1024 := by
  have h127 : (BitVec.ofInt 64 1023).toNat = 2 ^ 10 - 1 := by decide
  have key : (BitVec.ofInt 64 n &&& BitVec.ofInt 64 1023).toNat = (n % ((2 ^ 64 : Nat) : Int)).toNat % 2 ^ 10 := by
    rw [BitVec.toNat_and, BitVec.toNat_ofInt, h127, Nat.and_two_pow_sub_one_eq_mod]
  show IntKind.i64.wrap ((BitVec.ofInt 64 n &&& BitVec.ofInt 64 1023).toNat : Nat) = n % 1024
  rw [key, IntKind.wrap_i64]
  omega

/-- An act: what, who, how much. -/
abbrev Acts := List (Int × Int × Int)
def actEnc (l : Acts) : List Value := l.flatMap fun x => [.int .i64 x.1, .int .i64 x.2.1, .int .i64 x.2.2]
theorem actEnc_get (l : Acts) : ∀ k, k < l.length → (actEnc l)[k * 3]? = some (.int .i64 (l[k]?.getD (0, 0, 0)).1) ∧ (actEnc l)[k * 3 + 1]? = some (.int .i64 (l[k]?.getD (0, 0, 0)).2.1) ∧ (actEnc l)[k * 3 + 2]? = some (.int .i64 (l[k]?.getD (0, 0, 0)).2.2) := by
  induction l with
  | nil => intro k hk; simp at hk
  | cons a l ih =>
    intro k hk
    cases k with
    | zero => simp [actEnc, List.flatMap_cons]
    | succ k =>
      have h := ih k (by simpa using hk)
      simp only [actEnc, List.flatMap_cons] at h ⊢
      have e : (k + 1) * 3 = k * 3 + 3 := by omega
      rw [e, show k * 3 + 3 + 1 = k * 3 + 1 + 3 by omega, show k * 3 + 3 + 2 = k * 3 + 2 + 3 by omega]
      exact ⟨by simpa using h.1, by simpa using h.2.1, by simpa using h.2.2⟩

/-- The clock of a law's own: its blocks lie from B on, below nothing that came in has turned. -/
structure Own (B : Nat) (w wr : World) (v : Int) (al : Al) (k : Nat) : Prop where
  clk : Clk wr (From B) B v al
  below : Below w.heap.size w wr
  lo : w.heap.size ≤ B
  hi : B ≤ wr.heap.size
  nod : Nod al
  len : al.length ≤ k
  pos : 0 ≤ v
  top : v ≤ 1099511627776

theorem Own.step {B : Nat} {w wr w' : World} {v v' : Int} {al al' : Al} {k k' : Nat} (h : Own B w wr v al k) (hk : Clk w' (From B) B v' al') (hc : Chg (From B) wr w') (hn : Nod al') (hl : al'.length ≤ k') (h0 : 0 ≤ v') (h1 : v' ≤ 1099511627776) : Own B w w' v' al' k' :=
  ⟨hk, h.below.trans ((hc.below (fun _ h => h) h.hi).mono h.lo), h.lo, Nat.le_trans h.hi hc.size, hn, hl, h0, h1⟩
theorem Own.more {B : Nat} {w wr : World} {v : Int} {al : Al} {k k' : Nat} (h : Own B w wr v al k) (hk : k ≤ k') : Own B w wr v al k' := ⟨h.clk, h.below, h.lo, h.hi, h.nod, Nat.le_trans h.len hk, h.pos, h.top⟩

theorem own_new {w w1 w2 : World} {B : Nat} (b1 : Below w.heap.size w w1) (hB : B = w1.heap.size) (k2 : Clk w2 (From B) B 0 []) (b2 : Below w1.heap.size w1 w2) : Own B w w2 0 [] 0 :=
  ⟨k2, b1.trans (b2.mono b1.size), by rw [hB]; exact b1.size, by rw [hB]; exact b2.size, by simp [Nod], Nat.le_refl _, by omega, by omega⟩

theorem own_tick {B : Nat} {w wr : World} {v : Int} {al : Al} {k : Nat} (h : Own B w wr v al k) (n : Int) :
    Calls Try.prog 9 #[.pointer (some ⟨B, 0, none⟩), .int .i64 n] wr fun e w' => e = .returned (.bool (okTick v n)) ∧ Own B w w' (nowAfter v n) al k :=
  (tick_calls wr (From B) B v n al h.clk h.pos h.top).mono fun _ _ ⟨he, hk, hc⟩ => ⟨he, h.step hk hc h.nod h.len (nowAfter_bd v n h.pos h.top).1 (nowAfter_bd v n h.pos h.top).2⟩

theorem own_set {B : Nat} {w wr : World} {v : Int} {al : Al} {k : Nat} (h : Own B w wr v al k) (hk : k ≤ 1000000) (who y : Int) :
    Calls Try.prog 11 #[.pointer (some ⟨B, 0, none⟩), .int .i64 who, .int .i64 y] wr fun e w' => e = .returned (.tuple #[]) ∧ Own B w w' v (setAl al who y) (k + 1) :=
  (set_calls wr (From B) B v who y al h.clk (Nat.le_trans h.len hk)).mono fun _ _ ⟨he, hc, hg⟩ =>
    ⟨he, h.step (hc.mono fun q hq => by rcases hq with hq | hq; exact hq; exact Nat.le_trans h.hi hq) hg (setAl_nod h.nod who y) (by have := setAl_len al who y; have := h.len; omega) h.pos h.top⟩

theorem own_drop {B : Nat} {w wr : World} {v : Int} {al : Al} {k : Nat} (h : Own B w wr v al k) (who : Int) :
    Calls Try.prog 13 #[.pointer (some ⟨B, 0, none⟩), .int .i64 who] wr fun e w' => e = .returned (.bool (posOf al who).isSome) ∧ Own B w w' v (dropAl al who) k :=
  (drop_calls wr (From B) B v who al h.clk).mono fun _ _ ⟨he, hc, hg⟩ =>
    ⟨he, h.step hc hg (dropAl_nod h.nod who) (Nat.le_trans (dropAl_len al who) h.len) h.pos h.top⟩

theorem own_due {B : Nat} {w wr : World} {v : Int} {al : Al} {k : Nat} (h : Own B w wr v al k) (who : Int) :
    Calls Try.prog 18 #[.pointer (some ⟨B, 0, none⟩), .int .i64 who] wr fun e w' => e = .returned (.bool (dueB al who v)) ∧ Own B w w' v al k :=
  (due_calls wr (From B) B v who al h.clk).mono fun _ _ ⟨he, hb⟩ =>
    ⟨he, h.step (h.clk.below hb) (Chg.of_below _ hb) h.nod h.len h.pos h.top⟩

def atPair (al : Al) (who : Int) : Array Value := match atOf al who with | some y => #[.int .i64 y, .bool true] | none => #[.int .i64 0, .bool false]
theorem own_at {B : Nat} {w wr : World} {v : Int} {al : Al} {k : Nat} (h : Own B w wr v al k) (who : Int) :
    Calls Try.prog 15 #[.pointer (some ⟨B, 0, none⟩), .int .i64 who] wr fun e w' => e = .returned (.tuple (atPair al who)) ∧ Own B w w' v al k := by
  have fin : ∀ w', Below wr.heap.size wr w' → Own B w w' v al k := fun w' hb => h.step (h.clk.below hb) (Chg.of_below _ hb) h.nod h.len h.pos h.top
  cases hp : posOf al who with
  | none => exact (at_none wr (From B) B v who al h.clk hp).mono fun _ _ ⟨he, hb⟩ => ⟨by simpa [atPair, atOf, hp] using he, fin _ hb⟩
  | some i => exact (at_some wr (From B) B v who al i h.clk hp).mono fun _ _ ⟨he, hb⟩ => ⟨by simpa [atPair, atOf, hp] using he, fin _ hb⟩

theorem own_now {B : Nat} {w wr : World} {v : Int} {al : Al} {k : Nat} (h : Own B w wr v al k) :
    Calls Try.prog 17 #[.pointer (some ⟨B, 0, none⟩)] wr fun e w' => e = .returned (.int .i64 v) ∧ wr = w' := now_calls wr (From B) B v al h.clk

theorem Own.of_drew {B : Nat} {w wr : World} {v : Int} {al : Al} {k : Nat} (h : Own B w wr v al k) : Own B w wr.drew v al k :=
  ⟨h.clk.drew, h.below.drew, h.lo, h.hi, h.nod, h.len, h.pos, h.top⟩

theorem dueB_set {al : Al} (hn : Nod al) (who y t : Int) : dueB (setAl al who y) who t = decide (y ≤ t) := by simp [dueB, atOf_set hn]
theorem dueB_drop {al : Al} (hn : Nod al) (who t : Int) : dueB (dropAl al who) who t = false := by simp [dueB, atOf_drop hn]
theorem atPair_drop {al : Al} (hn : Nod al) (who : Int) : atPair (dropAl al who) who = #[.int .i64 0, .bool false] := by simp [atPair, atOf_drop hn]
theorem isSome_set {al : Al} (hn : Nod al) (who y : Int) : (posOf (setAl al who y) who).isSome = true := by
  have := atOf_set hn who y
  cases h : posOf (setAl al who y) who with
  | none => simp [atOf, h] at this
  | some i => rfl
theorem isSome_drop {al : Al} (hn : Nod al) (who : Int) : (posOf (dropAl al who) who).isSome = false := by rw [atOf_none.1 (atOf_drop hn who)]; rfl
theorem okTick_yes {v n : Int} (h0 : 0 ≤ n) (h1 : n ≤ 1099511627776 - v) : okTick v n = true := by simp [okTick, h0, h1]
theorem nowAfter_yes {v n : Int} (h0 : 0 ≤ n) (h1 : n ≤ 1099511627776 - v) : nowAfter v n = v + n := by simp [nowAfter, okTick, h0, h1]

set_option maxHeartbeats 1000000 in
set_option maxRecDepth 100000 in
theorem stays_calls (hsort : SortAl) (w : World) (A : Option Addr) (n c : Nat) (l : Acts) (who at_ m : Int) (hr : Rds w A n 3 (actEnc l)) (hn : n = l.length) (hm : n ≤ 9223372036854775807) :
    Calls Try.prog 6 #[.slice A n c, .int .i64 who, .int .i64 at_, .int .i64 m] w fun e w' => e = .returned (.bool true) ∧ Below w.heap.size w w' := by
  have HN := hd hn
  clear hn
  by_cases hbig : 100 < n ∨ m < 0 ∨ 1000 < m ∨ at_ < 0 ∨ 1000 < at_
  · have hc : 100 < n ∨ (n ≤ 100 ∧ m < 0) ∨ (n ≤ 100 ∧ 0 ≤ m ∧ 1000 < m) ∨ (n ≤ 100 ∧ 0 ≤ m ∧ m ≤ 1000 ∧ at_ < 0) ∨ (n ≤ 100 ∧ 0 ≤ m ∧ m ≤ 1000 ∧ 0 ≤ at_ ∧ 1000 < at_) := by omega
    clear hbig
    rcases hc with c1 | ⟨c1, c2⟩ | ⟨c1, c2, c3⟩ | ⟨c1, c2, c3, c4⟩ | ⟨c1, c2, c3, c4, c5⟩
    all_goals
      go_enter Try.func6, Try.ntmps6
      go_wp2_with fail
      refine (first_calls hsort w).mono ?_
      rintro e w1 ⟨rfl, b1⟩
      go_wp2_with fail
      refine (first_calls hsort w1).mono ?_
      rintro e w2 ⟨rfl, b2⟩
      go_wp2
      go_ret
      exact ⟨rfl, b1.trans (b2.mono b1.size)⟩
  · have c1 : n ≤ 100 := by omega
    have c2 : 0 ≤ m := by omega
    have c3 : m ≤ 1000 := by omega
    have c4 : 0 ≤ at_ := by omega
    have c5 : at_ ≤ 1000 := by omega
    clear hbig
    go_enter Try.func6, Try.ntmps6
    go_wp2_with fail
    refine (first_calls hsort w).mono ?_
    rintro e w1 ⟨rfl, b1⟩
    go_wp2_with fail
    refine (new_calls w1 (From w1.heap.size) (Nat.le_refl _)).mono ?_
    rintro e w2 ⟨rfl, k2, b2⟩
    obtain ⟨B, hB⟩ : ∃ B, B = w1.heap.size := ⟨_, rfl⟩
    rw [← hB] at k2 ⊢
    have ho := own_new b1 hB k2 b2
    clear hB b2 k2 b1
    go_wp2_with fail
    go_loopw [10] (fun i wr => ∃ (k : Nat) (v : Int) (al : Al), i = .int .i64 k ∧ k ≤ n ∧ v ≤ 1023 * k ∧ Own B w wr v al k) (fun i _ => n - (intOf i).toNat)
    case atStart => exact ⟨0, 0, [], rfl, Nat.zero_le _, by omega, ho⟩
    case round =>
      obtain ⟨k, v, al, rfl, hk, hv, ho⟩ := hrel
      by_cases hlt : k < n
      · obtain ⟨g, o, rfl, hgw, hc⟩ := hr.at_ (by omega)
        have hcg := actEnc_get l k (by rw [← HN.o]; exact hlt)
        have h1 := (ho.below.cell (p := ⟨g, o + k * 3, none⟩) hgw).trans (hc _ _ hcg.1)
        have h2 := (ho.below.cell (p := ⟨g, o + (k * 3 + 1), none⟩) hgw).trans (hc _ _ hcg.2.1)
        have h3 := (ho.below.cell (p := ⟨g, o + (k * 3 + 2), none⟩) hgw).trans (hc _ _ hcg.2.2)
        rw [← Nat.add_assoc] at h2 h3
        generalize l[k]?.getD (0, 0, 0) = x at h1 h2 h3
        obtain ⟨op, y, z⟩ := x
        simp only at h1 h2 h3
        clear hc hcg
        have hpos := ho.pos
        by_cases c0 : op = 0
        · subst c0
          go_wp2_with fail
          rw [i64_and1023]
          refine (own_tick ho (z % 1024)).mono ?_
          rintro e w3 ⟨rfl, ho3⟩
          have hz : nowAfter v (z % 1024) = v + z % 1024 := by simp [nowAfter, okTick]; omega
          rw [hz] at ho3
          clear h1 h2 h3
          go_wp2
          go_roundw
          case rel => exact ⟨k + 1, _, al, by go_num, by omega, by omega, ho3.more (by omega)⟩
          case measure => simp [intOf]; omega
        · have e0 : (op == 0) = false := by simp [c0]
          by_cases c1 : op = 1
          · subst c1
            go_wp2_with fail
            go_still_tail 11, (by kernel_rfl)
            go_wp2_with fail
            refine (own_set (Own.of_drew ho) (by omega) y z).mono ?_
            rintro e w3 ⟨rfl, ho3⟩
            clear h1 h2 h3
            go_wp2
            go_roundw
            case rel => exact ⟨k + 1, v, _, by go_num, by omega, by omega, ho3⟩
            case measure => simp [intOf]; omega
          · have e1 : (op == 1) = false := by simp [c1]
            clear c0 c1
            go_wp2_with fail
            refine (own_drop ho y).mono ?_
            rintro e w3 ⟨rfl, ho3⟩
            clear h1 h2 h3
            go_wp2
            go_roundw
            case rel => exact ⟨k + 1, v, _, by go_num, by omega, by omega, ho3.more (by omega)⟩
            case measure => simp [intOf]; omega
      · obtain rfl : k = n := by omega
        have hpos := ho.pos
        have hnod := ho.nod
        go_wp2_with fail
        refine (own_now ho).mono ?_
        rintro e w3 ⟨rfl, rfl⟩
        go_wp2_with fail
        refine (own_set ho (by omega) who (v + at_)).mono ?_
        rintro e w4 ⟨rfl, h4⟩
        go_wp2_with fail
        refine (own_due h4 who).mono ?_
        rintro e w5 ⟨rfl, h5⟩
        rw [dueB_set hnod]
        by_cases hlt : m < at_
        · rw [show decide (v + at_ ≤ v) = false by simp; omega]
          have e0 : (at_ == 0) = false := by simp; omega
          go_wp2_with fail
          refine (own_tick h5 m).mono ?_
          rintro e w6 ⟨rfl, h6⟩
          rw [okTick_yes c2 (by omega)]
          rw [nowAfter_yes c2 (by omega)] at h6
          go_wp2_with fail
          refine (own_due h6 who).mono ?_
          rintro e w7 ⟨rfl, h7⟩
          rw [dueB_set hnod, show decide (v + at_ ≤ v + m) = false by simp; omega]
          go_wp2_with fail
          refine (own_tick h7 _).mono ?_
          rintro e w8 ⟨rfl, h8⟩
          rw [okTick_yes (by omega) (by omega)]
          rw [nowAfter_yes (by omega) (by omega)] at h8
          go_wp2_with fail
          refine (own_due h8 who).mono ?_
          rintro e w9 ⟨rfl, h9⟩
          rw [dueB_set hnod, show decide (v + at_ ≤ v + m + (at_ - m - 1)) = false by simp; omega]
          go_wp2_with fail
          refine (own_tick h9 1).mono ?_
          rintro e w10 ⟨rfl, h10⟩
          rw [okTick_yes (by omega) (by omega)]
          rw [nowAfter_yes (by omega) (by omega)] at h10
          go_wp2_with fail
          refine (own_due h10 who).mono ?_
          rintro e w11 ⟨rfl, h11⟩
          rw [dueB_set hnod, show decide (v + at_ ≤ v + m + (at_ - m - 1) + 1) = true by simp; omega]
          go_wp2_with fail
          refine (own_tick h11 7).mono ?_
          rintro e w12 ⟨rfl, h12⟩
          rw [okTick_yes (by omega) (by omega)]
          rw [nowAfter_yes (by omega) (by omega)] at h12
          go_wp2_with fail
          refine (own_due h12 who).mono ?_
          rintro e w13 ⟨rfl, h13⟩
          rw [dueB_set hnod, show decide (v + at_ ≤ v + m + (at_ - m - 1) + 1 + 7) = true by simp; omega]
          go_wp2_with fail
          refine (own_drop h13 who).mono ?_
          rintro e w14 ⟨rfl, h14⟩
          rw [isSome_set hnod]
          go_wp2_with fail
          refine (own_due h14 who).mono ?_
          rintro e w15 ⟨rfl, h15⟩
          rw [dueB_drop (setAl_nod hnod _ _)]
          go_wp2_with fail
          refine (own_drop h15 who).mono ?_
          rintro e w16 ⟨rfl, h16⟩
          rw [isSome_drop (setAl_nod hnod _ _)]
          go_wp2_with fail
          refine (own_at h16 who).mono ?_
          rintro e w17 ⟨rfl, h17⟩
          rw [atPair_drop h15.nod]
          go_wp2
          go_ret
          exact ⟨rfl, h17.below⟩
        · have hge : at_ ≤ m := by omega
          have e0 : decide (v + at_ ≤ v) = (at_ == 0) := by
            by_cases h : at_ = 0
            · simp [h]
            · have : ¬ v + at_ ≤ v := by omega
              simp [h, this]
          rw [e0]
          go_wp2_with fail
          refine (own_tick h5 m).mono ?_
          rintro e w6 ⟨rfl, h6⟩
          rw [okTick_yes c2 (by omega)]
          rw [nowAfter_yes c2 (by omega)] at h6
          go_wp2_with fail
          refine (own_due h6 who).mono ?_
          rintro e w7 ⟨rfl, h7⟩
          rw [dueB_set hnod, show decide (v + at_ ≤ v + m) = true by simp; omega]
          go_wp2_with fail
          refine (own_due h7 who).mono ?_
          rintro e w11 ⟨rfl, h11⟩
          rw [dueB_set hnod, show decide (v + at_ ≤ v + m) = true by simp; omega]
          go_wp2_with fail
          refine (own_tick h11 7).mono ?_
          rintro e w12 ⟨rfl, h12⟩
          rw [okTick_yes (by omega) (by omega)]
          rw [nowAfter_yes (by omega) (by omega)] at h12
          go_wp2_with fail
          refine (own_due h12 who).mono ?_
          rintro e w13 ⟨rfl, h13⟩
          rw [dueB_set hnod, show decide (v + at_ ≤ v + m + 7) = true by simp; omega]
          go_wp2_with fail
          refine (own_drop h13 who).mono ?_
          rintro e w14 ⟨rfl, h14⟩
          rw [isSome_set hnod]
          go_wp2_with fail
          refine (own_due h14 who).mono ?_
          rintro e w15 ⟨rfl, h15⟩
          rw [dueB_drop (setAl_nod hnod _ _)]
          go_wp2_with fail
          refine (own_drop h15 who).mono ?_
          rintro e w16 ⟨rfl, h16⟩
          rw [isSome_drop (setAl_nod hnod _ _)]
          go_wp2_with fail
          refine (own_at h16 who).mono ?_
          rintro e w17 ⟨rfl, h17⟩
          rw [atPair_drop h15.nod]
          go_wp2
          go_ret
          exact ⟨rfl, h17.below⟩

end Go.Proofs.Ytdnmeffglpmlaaa
