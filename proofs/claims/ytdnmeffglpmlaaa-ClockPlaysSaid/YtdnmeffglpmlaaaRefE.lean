/-
  The two clocks side by side: plain facts, and each call's step.
-/
import Derived.Test.YtdnmeffglpmlaaaRefD
import Derived.Test.YtdnmeffglpmlaaaRefC
import Derived.Test.YtdnmeffglpmlaaaClkDue
namespace Go.Proofs.Ytdnmeffglpmlaaa
open Go.RowKit

theorem dropAl_eq (who : Int) : ∀ al : Al, Nod al → dropAl al who = keepers al who
  | [], _ => rfl
  | x :: l, hn => by
    have hn' : Nod l := by unfold Nod at *; exact (List.nodup_cons.1 hn).2
    have hx : ∀ z ∈ l, z.1 ≠ x.1 := fun z hz he => (List.nodup_cons.1 (show (x.1 :: l.map (·.1)).Nodup from hn)).1 (he ▸ List.mem_map_of_mem hz)
    have ih := dropAl_eq who l hn'
    by_cases h : x.1 = who
    · have e : keepers (x :: l) who = l := by
        unfold keepers
        rw [List.filter_cons_of_neg (by simpa using h), List.filter_eq_self]
        intro z hz
        have := hx z hz
        rw [h] at this
        simpa using this
      rw [e]
      have hp : posOf (x :: l) who = some 0 := by simp [posOf, List.findIdx?_cons, h]
      simp [dropAl, hp]
    · have e : keepers (x :: l) who = x :: keepers l who := by
        unfold keepers
        rw [List.filter_cons_of_pos (by simpa using h)]
      rw [e, ← ih]
      have hp : posOf (x :: l) who = (posOf l who).map (· + 1) := by simp [posOf, List.findIdx?_cons, h]
      cases hq : posOf l who with
      | none => simp [dropAl, hp, hq]
      | some i => simp [dropAl, hp, hq]
theorem dropAl_len_lt (al : Al) (who : Int) : decide ((dropAl al who).length < al.length) = (posOf al who).isSome := by
  cases hp : posOf al who with
  | none => simp [dropAl, hp]
  | some i =>
    have hi := posOf_lt hp
    simp [dropAl, hp, List.length_eraseIdx, hi]
    omega
theorem setAl_eq (who y : Int) (al : Al) (h : Nod al) : setAl al who y = keepers al who ++ [(who, y)] := by rw [setAl, dropAl_eq who al h]
theorem keepers_len (who : Int) (al : Al) (h : Nod al) : decide ((keepers al who).length < al.length) = (posOf al who).isSome := by rw [← dropAl_eq who al h, dropAl_len_lt]

theorem Clk.shrink {w : World} {S : Nat → Prop} {b : Nat} {now : Int} {al : Al} (h : Clk w S b now al) : Clk w (fun k => S k ∧ k < w.heap.size) b now al := by
  obtain ⟨A, c, hb, hr, hS⟩ := h
  exact ⟨A, c, hb, ⟨hr.own, fun a ha => ⟨hr.fp a ha, hr.lt ha⟩⟩, hS, hb.lt⟩
theorem RClk.shrink {w : World} {S : Nat → Prop} {b : Nat} {now : Int} {al : Al} (h : RClk w S b now al) : RClk w (fun k => S k ∧ k < w.heap.size) b now al := by
  obtain ⟨A1, c1, A2, c2, hb, hr, hr2, hap, hS⟩ := h
  exact ⟨A1, c1, A2, c2, hb, ⟨hr.own, fun a ha => ⟨hr.fp a ha, hr.lt ha⟩⟩, ⟨hr2.own, fun a ha => ⟨hr2.fp a ha, hr2.lt ha⟩⟩, hap, hS, hb.lt⟩

/-- Both clocks, apart, and nothing that came in turned. -/
structure Both (B C : Nat) (w wr : World) (v : Int) (al : Al) (v2 : Int) (al2 : Al) : Prop where
  ex : ∃ S T : Nat → Prop, Clk wr S B v al ∧ RClk wr T C v2 al2 ∧ (∀ q, S q → ¬ T q) ∧ (∀ q, S q → w.heap.size ≤ q ∧ q < wr.heap.size) ∧ (∀ q, T q → w.heap.size ≤ q ∧ q < wr.heap.size)
  below : Below w.heap.size w wr

theorem Both.bel {B C : Nat} {w wr w' : World} {v v2 : Int} {al al2 : Al} (h : Both B C w wr v al v2 al2) (hb : Below wr.heap.size wr w') : Both B C w w' v al v2 al2 := by
  obtain ⟨⟨S, T, h1, h2, h3, h4, h5⟩, h6⟩ := h
  have hs := hb.size
  exact ⟨⟨S, T, h1.below hb, h2.below hb, h3, fun q hq => ⟨(h4 q hq).1, by have := (h4 q hq).2; omega⟩, fun q hq => ⟨(h5 q hq).1, by have := (h5 q hq).2; omega⟩⟩, h6.trans (hb.mono h6.size)⟩
theorem Both.drewN {B C : Nat} {w wr : World} {v v2 : Int} {al al2 : Al} (h : Both B C w wr v al v2 al2) (n : Nat) : Both B C w (wr.drewN n) v al v2 al2 := h.bel (bdrewN (Below.refl _ _) n)
theorem Both.drew {B C : Nat} {w wr : World} {v v2 : Int} {al al2 : Al} (h : Both B C w wr v al v2 al2) : Both B C w wr.drew v al v2 al2 := h.bel (bdrw (Below.refl _ _))

theorem both_p {B C : Nat} {w wr : World} {v v2 : Int} {al al2 : Al} {f : FuncId} {args : Array Value} {r : Ending} {v' : Int} {al' : Al} (h : Both B C w wr v al v2 al2)
    (hc : ∀ S, Clk wr S B v al → Calls Try.prog f args wr fun e w' => e = r ∧ Clk w' (Plus S wr.heap.size) B v' al' ∧ Chg S wr w') :
    Calls Try.prog f args wr fun e w' => e = r ∧ Both B C w w' v' al' v2 al2 := by
  obtain ⟨⟨S, T, h1, h2, h3, h4, h5⟩, h6⟩ := h
  refine (hc S h1).mono fun e w' ⟨he, hk, hg⟩ => ⟨he, ⟨_, T, hk.shrink, h2.chg hg (fun q hq hs => h3 q hs hq), ?_, ?_, ?_⟩, ?_⟩
  · rintro q ⟨hq | hq, _⟩ ht
    · exact h3 q hq ht
    · have := (h5 q ht).2; omega
  · rintro q ⟨hq | hq, hl⟩
    · exact ⟨(h4 q hq).1, hl⟩
    · exact ⟨Nat.le_trans h6.size hq, hl⟩
  · intro q hq
    have := hg.size
    exact ⟨(h5 q hq).1, by have := (h5 q hq).2; omega⟩
  · exact h6.trans (hg.below (fun q hq => (h4 q hq).1) h6.size)
theorem both_r {B C : Nat} {w wr : World} {v v2 : Int} {al al2 : Al} {f : FuncId} {args : Array Value} {r : Ending} {v' : Int} {al' : Al} (h : Both B C w wr v al v2 al2)
    (hc : ∀ S, RClk wr S C v2 al2 → Calls Try.prog f args wr fun e w' => e = r ∧ RClk w' (Plus S wr.heap.size) C v' al' ∧ Chg S wr w') :
    Calls Try.prog f args wr fun e w' => e = r ∧ Both B C w w' v al v' al' := by
  obtain ⟨⟨S, T, h1, h2, h3, h4, h5⟩, h6⟩ := h
  refine (hc T h2).mono fun e w' ⟨he, hk, hg⟩ => ⟨he, ⟨S, _, h1.chg hg h3, hk.shrink, ?_, ?_, ?_⟩, ?_⟩
  · rintro q hs ⟨hq | hq, _⟩
    · exact h3 q hs hq
    · have := (h4 q hs).2; omega
  · intro q hq
    have := hg.size
    exact ⟨(h4 q hq).1, by have := (h4 q hq).2; omega⟩
  · rintro q ⟨hq | hq, hl⟩
    · exact ⟨(h5 q hq).1, hl⟩
    · exact ⟨Nat.le_trans h6.size hq, hl⟩
  · exact h6.trans (hg.below (fun q hq => (h5 q hq).1) h6.size)

theorem plus_of (S : Nat → Prop) (B : Nat) : ∀ k, S k → Plus S B k := fun _ h => .inl h

theorem both_tick {B C : Nat} {w wr : World} {v v2 : Int} {al al2 : Al} (h : Both B C w wr v al v2 al2) (h0 : 0 ≤ v) (h1 : v ≤ 1099511627776) (n : Int) :
    Calls Try.prog 9 #[.pointer (some ⟨B, 0, none⟩), .int .i64 n] wr fun e w' => e = .returned (.bool (okTick v n)) ∧ Both B C w w' (nowAfter v n) al v2 al2 :=
  both_p h fun S hk => (tick_calls wr S B v n al hk h0 h1).mono fun _ _ ⟨he, hk, hc⟩ => ⟨he, hk.mono (plus_of _ _), hc⟩
theorem both_rtick {B C : Nat} {w wr : World} {v v2 : Int} {al al2 : Al} (h : Both B C w wr v al v2 al2) (h0 : 0 ≤ v2) (h1 : v2 ≤ 1099511627776) (n : Int) :
    Calls Try.prog 10 #[.pointer (some ⟨C, 0, none⟩), .int .i64 n] wr fun e w' => e = .returned (.bool (okTick v2 n)) ∧ Both B C w w' v al (nowAfter v2 n) al2 :=
  both_r h fun S hk => (rtick_calls wr S C v2 n al2 hk h0 h1).mono fun _ _ ⟨he, hk, hc⟩ => ⟨he, hk.mono (plus_of _ _), hc⟩
theorem both_set {B C : Nat} {w wr : World} {v v2 : Int} {al al2 : Al} (h : Both B C w wr v al v2 al2) (hl : al.length ≤ 1000000) (who y : Int) :
    Calls Try.prog 11 #[.pointer (some ⟨B, 0, none⟩), .int .i64 who, .int .i64 y] wr fun e w' => e = .returned (.tuple #[]) ∧ Both B C w w' v (setAl al who y) v2 al2 :=
  both_p h fun S hk => set_calls wr S B v who y al hk hl
theorem both_rset {B C : Nat} {w wr : World} {v v2 : Int} {al al2 : Al} (h : Both B C w wr v al v2 al2) (hl : al2.length < 1000000) (hn : Nod al2) (who y : Int) :
    Calls Try.prog 12 #[.pointer (some ⟨C, 0, none⟩), .int .i64 who, .int .i64 y] wr fun e w' => e = .returned (.tuple #[]) ∧ Both B C w w' v al v2 (setAl al2 who y) := by
  rw [setAl_eq who y al2 hn]
  exact both_r h fun S hk => rset_calls wr S C v2 who y al2 hk hl
theorem both_drop {B C : Nat} {w wr : World} {v v2 : Int} {al al2 : Al} (h : Both B C w wr v al v2 al2) (who : Int) :
    Calls Try.prog 13 #[.pointer (some ⟨B, 0, none⟩), .int .i64 who] wr fun e w' => e = .returned (.bool (posOf al who).isSome) ∧ Both B C w w' v (dropAl al who) v2 al2 :=
  both_p h fun S hk => (drop_calls wr S B v who al hk).mono fun _ _ ⟨he, hk, hc⟩ => ⟨he, hk.mono (plus_of _ _), hc⟩
theorem both_rdrop {B C : Nat} {w wr : World} {v v2 : Int} {al al2 : Al} (h : Both B C w wr v al v2 al2) (hl : al2.length ≤ 1000000) (hn : Nod al2) (who : Int) :
    Calls Try.prog 14 #[.pointer (some ⟨C, 0, none⟩), .int .i64 who] wr fun e w' => e = .returned (.bool (posOf al2 who).isSome) ∧ Both B C w w' v al v2 (dropAl al2 who) := by
  rw [← keepers_len who al2 hn, dropAl_eq who al2 hn]
  exact both_r h fun S hk => rdrop_calls wr S C v2 who al2 hk hl
theorem both_at {B C : Nat} {w wr : World} {v v2 : Int} {al al2 : Al} (h : Both B C w wr v al v2 al2) (who : Int) :
    Calls Try.prog 15 #[.pointer (some ⟨B, 0, none⟩), .int .i64 who] wr fun e w' => e = .returned (.tuple (atPair al who)) ∧ Both B C w w' v al v2 al2 := by
  obtain ⟨S, T, h1, _⟩ := h.ex
  exact (at_calls wr S B v who al h1).mono fun _ _ ⟨he, hb⟩ => ⟨he, h.bel hb⟩
theorem both_rat {B C : Nat} {w wr : World} {v v2 : Int} {al al2 : Al} (h : Both B C w wr v al v2 al2) (who : Int) :
    Calls Try.prog 16 #[.pointer (some ⟨C, 0, none⟩), .int .i64 who] wr fun e w' => e = .returned (.tuple (atPair al2 who)) ∧ wr = w' := by
  obtain ⟨S, T, _, h1, _⟩ := h.ex
  exact rat_calls wr T C v2 who al2 h1
theorem both_due {B C : Nat} {w wr : World} {v v2 : Int} {al al2 : Al} (h : Both B C w wr v al v2 al2) (who : Int) :
    Calls Try.prog 18 #[.pointer (some ⟨B, 0, none⟩), .int .i64 who] wr fun e w' => e = .returned (.bool (dueB al who v)) ∧ Both B C w w' v al v2 al2 := by
  obtain ⟨S, T, h1, _⟩ := h.ex
  exact (due_calls wr S B v who al h1).mono fun _ _ ⟨he, hb⟩ => ⟨he, h.bel hb⟩
theorem both_rdue {B C : Nat} {w wr : World} {v v2 : Int} {al al2 : Al} (h : Both B C w wr v al v2 al2) (who : Int) :
    Calls Try.prog 19 #[.pointer (some ⟨C, 0, none⟩), .int .i64 who] wr fun e w' => e = .returned (.bool (dueB al2 who v2)) ∧ wr = w' := by
  obtain ⟨S, T, _, h1, _⟩ := h.ex
  exact rdue_calls wr T C v2 who al2 h1
theorem both_now {B C : Nat} {w wr : World} {v v2 : Int} {al al2 : Al} (h : Both B C w wr v al v2 al2) :
    Calls Try.prog 17 #[.pointer (some ⟨B, 0, none⟩)] wr fun e w' => e = .returned (.int .i64 v) ∧ wr = w' := by
  obtain ⟨S, T, h1, _⟩ := h.ex
  exact now_calls wr S B v al h1
theorem both_cell {B C : Nat} {w wr : World} {v v2 : Int} {al al2 : Al} (h : Both B C w wr v al v2 al2) : wr.cell? ⟨C, 0, none⟩ = some (.int .i64 v2) := by
  obtain ⟨S, T, _, ⟨A1, c1, A2, c2, hb, _⟩, _⟩ := h.ex
  exact hb.at_ 0 rfl

/-- The list of those who are due, in order. -/
def Dues (v : Int) (al l : Al) : Prop := l.Perm (dueOf v al) ∧ SortedAl l
theorem Dues.uniq {v : Int} {al l l' : Al} (h : Dues v al l) (h' : Dues v al l') : l = l' := sorted_eq l l' (h.1.trans h'.1.symm) h.2 h'.2
theorem Dues.len {v : Int} {al l : Al} (h : Dues v al l) : l.length ≤ al.length := by
  rw [h.1.length_eq]; exact List.length_filter_le _ _

theorem both_all (hsort : SortAl) {B C : Nat} {w wr : World} {v v2 : Int} {al al2 : Al} (h : Both B C w wr v al v2 al2) (hl : al.length ≤ 1000000) :
    Calls Try.prog 21 #[.pointer (some ⟨B, 0, none⟩)] wr fun e w' => ∃ (l : Al) (A : Option Addr) (c : Nat), e = .returned (.slice A l.length c) ∧ Dues v al l ∧ Rds w' A l.length 1 (iEnc (l.map (·.1))) ∧ Both B C w w' v al v2 al2 := by
  obtain ⟨S, T, h1, _⟩ := h.ex
  exact (all_calls hsort wr S B v al h1 hl).mono fun _ _ ⟨l, A, c, he, hp, hs, hr, hb⟩ => ⟨l, A, c, he, ⟨hp, hs⟩, hr.rds, h.bel hb⟩
theorem both_rall {B C : Nat} {w wr : World} {v v2 : Int} {al al2 : Al} (h : Both B C w wr v al v2 al2) (hl : al2.length ≤ 1000000) :
    Calls Try.prog 22 #[.pointer (some ⟨C, 0, none⟩)] wr fun e w' => ∃ (l : Al) (A : Option Addr) (c : Nat), e = .returned (.slice A l.length c) ∧ Dues v2 al2 l ∧ Rds w' A l.length 1 (iEnc (l.map (·.1))) ∧ Both B C w w' v al v2 al2 ∧ Below wr.heap.size wr w' := by
  obtain ⟨S, T, _, h1, _⟩ := h.ex
  exact (rall_calls wr T C v2 al2 h1 hl).mono fun _ _ ⟨l, A, c, he, hp, hs, hr, hb⟩ => ⟨l, A, c, he, ⟨hp, hs⟩, hr.rds, h.bel hb, hb⟩

/-- Two lists that say the same: they are one. -/
theorem both_ints {w : World} {v : Int} {al l l' : Al} {A A' : Option Addr} {c c' : Nat} (h : Dues v al l) (h' : Dues v al l') (hl : al.length ≤ 1000000) (hr : Rds w A l.length 1 (iEnc (l.map (·.1)))) (hr' : Rds w A' l'.length 1 (iEnc (l'.map (·.1)))) :
    Calls Try.prog 20 #[.slice A l.length c, .slice A' l'.length c'] w fun e w' => e = .returned (.bool true) ∧ Below w.heap.size w w' := by
  have he := h.uniq h'
  subst he
  have := h.len
  refine (ints_calls w A A' l.length l.length c c' (l.map (·.1)) (l.map (·.1)) (by simp) (by simp) hr hr' (by omega) (by omega)).mono fun e w' ⟨he, hb⟩ => ⟨?_, hb⟩
  rw [he]
  simp

theorem both_new {w w1 w2 w3 : World} {B : Nat} (b1 : Below w.heap.size w w1) (hB : B = w1.heap.size) (k2 : Clk w2 (From B) B 0 []) (b2 : Below w1.heap.size w1 w2) (h3 : w3 = w2.alloc (.cells #[.int .i64 0, .slice none 0 0, .slice none 0 0] 29 (0, 0))) :
    Both B w2.heap.size w w3 0 [] 0 [] := by
  subst h3
  have s1 := b1.size
  have s2 := b2.size
  have hsz : (w2.alloc (.cells #[.int .i64 0, .slice none 0 0, .slice none 0 0] 29 (0, 0))).heap.size = w2.heap.size + 1 := by simp
  refine ⟨⟨_, fun k => k = w2.heap.size, k2.shrink.below ((Below.refl _ _).alloc (Nat.le_refl _) _), ⟨none, 0, none, 0, Blk.new_ _ _ rfl _ _, Row.nil _ _ _ _, Row.nil _ _ _ _, fun k h => (Of.none h).elim, rfl⟩, ?_, ?_, ?_⟩, ?_⟩
  · rintro q ⟨_, h1⟩ h2; omega
  · rintro q ⟨h0, h1⟩
    rw [hsz]
    unfold From at h0
    omega
  · rintro q rfl
    rw [hsz]
    omega
  · exact ((b1.trans (b2.mono s1))).alloc (by omega) _

end Go.Proofs.Ytdnmeffglpmlaaa
