/-
  The clock's calls that write: Drop, Set.
-/
import Derived.Test.YtdnmeffglpmlaaaClkA
import Derived.Test.YtdnmeffglpmlaaaDelAlarm
namespace Go.Proofs.Ytdnmeffglpmlaaa
open Go.RowKit

def dropAl (al : Al) (who : Int) : Al := match posOf al who with | some i => al.eraseIdx i | none => al

theorem alEnc_erase (al : Al) : ∀ i, i < al.length → alEnc (al.eraseIdx i) = (alEnc al).take (i * 2) ++ (alEnc al).drop ((i + 1) * 2) := by
  induction al with
  | nil => intro i hi; simp at hi
  | cons a l ih =>
    intro i hi
    cases i with
    | zero => simp [alEnc, List.flatMap_cons]
    | succ i =>
      have := ih i (by simpa using hi)
      simp only [alEnc, List.flatMap_cons, List.eraseIdx_cons_succ] at this ⊢
      rw [this, show (i + 1 + 1) * 2 = (i + 1) * 2 + 1 + 1 by omega]
      have e : (i + 1) * 2 = i * 2 + 1 + 1 := by omega
      generalize (i + 1) * 2 = z at *
      subst e
      rfl
theorem alEnc_one (al : Al) : ∀ u ∈ alEnc al, u.oneCell' = true := by
  intro u hu
  obtain ⟨x, _, h⟩ := List.mem_flatMap.1 hu
  simp at h
  rcases h with rfl | rfl <;> rfl

theorem drop_none (w : World) (S : Nat → Prop) (b : Nat) (now who : Int) (al : Al) (h : Clk w S b now al) (hp : posOf al who = none) :
    Calls Try.prog 13 #[.pointer (some ⟨b, 0, none⟩), .int .i64 who] w fun e w' => e = .returned (.bool false) ∧ Below w.heap.size w w' := by
  have hpi : posInt al who = -1 := by simp [posInt, hp]
  have HP := hd hpi
  clear hpi hp
  go_enter Try.func13, Try.ntmps13
  go_wp2_with fail
  refine (find_calls w S b now who al h).mono ?_
  rintro e w1 ⟨rfl, hbe⟩
  rw [HP.o]
  go_wp2
  go_ret
  exact ⟨rfl, hbe⟩

theorem drop_some (w : World) (S : Nat → Prop) (b : Nat) (now who : Int) (al : Al) (i : Nat) (h : Clk w S b now al) (hp : posOf al who = some i) :
    Calls Try.prog 13 #[.pointer (some ⟨b, 0, none⟩), .int .i64 who] w fun e w' => e = .returned (.bool true) ∧ Clk w' S b now (al.eraseIdx i) ∧ Chg S w w' := by
  have hpi : posInt al who = i := by simp [posInt, hp]
  have HP := hd hpi
  have hi := posOf_lt hp
  clear hpi hp
  go_enter Try.func13, Try.ntmps13
  go_wp2_with fail
  refine (find_calls w S b now who al h).mono ?_
  rintro e w1 ⟨rfl, hbe⟩
  rw [HP.o]
  obtain ⟨A, c, hb, hr, hS⟩ := h.below hbe
  have hb1 := hb.at_ 1 rfl
  have hcap := hr.cap
  unfold maxLen at hcap
  have hne := hr.ne_blk hb (by decide)
  obtain ⟨n, hn⟩ : ∃ n, n = al.length := ⟨_, rfl⟩
  rw [← hn] at hr hb hb1 hcap hi
  have HN := hd hn
  clear hn
  have hi0 : (0 : Int) ≤ (i : Int) := by omega
  have hb' := hd hb
  clear hb
  go_wp2_with fail
  refine (delAlarm_calls w1 (fun k => some k = A.map (·.block)) A n c i (alEnc al) ⟨hr.own, fun a ha => by rw [ha]; rfl⟩ (alEnc_one al) hi).mono ?_
  rintro e w2 ⟨rfl, hr2, hc2⟩
  have hb2 : Blk w2 b 45 #[.int .i64 now, .slice A n c] := hb'.o.chg hc2 (fun hk => by
    cases A with
    | none => cases hk
    | some a => injection hk with hk; exact hne a rfl hk.symm)
  have h1 := hb2.at_ 1 rfl
  have hf := hb2.frozen 1
  have hb2' := hd hb2
  clear hb2
  go_wp2
  go_ret
  have hAS : ∀ k, some k = A.map (·.block) → S k := fun k hk => by
    cases A with
    | none => cases hk
    | some a => injection hk with hk; rw [hk]; exact hr.fp a rfl
  have hlen : (al.eraseIdx i).length = n - 1 := by rw [List.length_eraseIdx, if_pos (by rw [← HN.o]; exact hi), HN.o]
  refine ⟨rfl, ⟨A, c, ?_, ?_, hS⟩, ?_⟩
  · rw [hlen]; exact hb2'.o.set_ 1 _
  · rw [hlen, alEnc_erase al i (by rw [← HN.o]; exact hi)]
    exact (hr2.far hne _).mono hAS
  · exact (((Chg.refl S w).then_below hbe).trans hc2 (fun k hk => .inl (hAS k hk))).setCell (.inl hS) _

theorem drop_calls (w : World) (S : Nat → Prop) (b : Nat) (now who : Int) (al : Al) (h : Clk w S b now al) :
    Calls Try.prog 13 #[.pointer (some ⟨b, 0, none⟩), .int .i64 who] w fun e w' => e = .returned (.bool (posOf al who).isSome) ∧ Clk w' S b now (dropAl al who) ∧ Chg S w w' := by
  cases hp : posOf al who with
  | none => exact (drop_none w S b now who al h hp).mono fun e w' ⟨he, hb⟩ => ⟨he, by simpa [dropAl, hp] using h.below hb, Chg.of_below _ hb⟩
  | some i => exact (drop_some w S b now who al i h hp).mono fun e w' ⟨he, h1, h2⟩ => ⟨he, by simpa [dropAl, hp] using h1, h2⟩

theorem dropAl_len (al : Al) (who : Int) : (dropAl al who).length ≤ al.length := by
  unfold dropAl
  split
  · rw [List.length_eraseIdx]; split <;> omega
  · exact Nat.le_refl _

def setAl (al : Al) (who at_ : Int) : Al := dropAl al who ++ [(who, at_)]
theorem alEnc_snoc (al : Al) (x y : Int) : alEnc (al ++ [(x, y)]) = alEnc al ++ [.int .i64 x, .int .i64 y] := by simp [alEnc]

theorem cells_two (w : World) (t : TypeId) (x y : Value) (o : Obj) (ho : o = .cells #[x, y] t) : ∀ j u, ([x, y] : List Value)[j]? = some u → (w.alloc o).cell? ((⟨w.heap.size, 0, none⟩ : Addr).add j) = some u := by
  intro j u hu
  subst ho
  rw [Addr.add_lit, Nat.zero_add, (Blk.new w t #[x, y]).cell]
  simpa using hu

theorem cells_at {w : World} {g : Nat} {t : TypeId} {cs : Array Value} {l : List Value} (hb : Blk w g t cs) (hl : cs.toList = l) : ∀ j u, l[j]? = some u → w.cell? ((⟨g, 0, none⟩ : Addr).add j) = some u := by
  intro j u hu
  rw [Addr.add_lit, Nat.zero_add, hb.cell, ← hu, ← hl]
  simp

set_option maxHeartbeats 400000 in
theorem set_calls (w : World) (S : Nat → Prop) (b : Nat) (now who at_ : Int) (al : Al) (h : Clk w S b now al) (hl : al.length ≤ 1000000) :
    Calls Try.prog 11 #[.pointer (some ⟨b, 0, none⟩), .int .i64 who, .int .i64 at_] w fun e w' => e = .returned (.tuple #[]) ∧ Clk w' (Plus S w.heap.size) b now (setAl al who at_) ∧ Chg S w w' := by
  obtain ⟨i0, hi, hz0, hz1, hz2⟩ := info_parts delAlarm_info
  go_enter Try.func11, Try.ntmps11
  go_wp2_with fail
  refine (drop_calls w S b now who al h).mono ?_
  rintro e w1 ⟨rfl, hk1, hc1⟩
  have hdl := dropAl_len al who
  obtain ⟨A, c, hb, hr, hS⟩ := hk1
  obtain ⟨n, hn⟩ : ∃ n, n = (dropAl al who).length := ⟨_, rfl⟩
  rw [← hn] at hr hb hdl
  have HN := hd hn
  clear hn
  have hb1 := hb.at_ 1 rfl
  have hne := hr.ne_blk hb (by decide)
  have hbl := hb.lt
  have HB := hd hb
  clear hb
  have hfar : ¬ Of A b := fun hk => by
    cases A with
    | none => exact Of.none hk
    | some a => exact hne a rfl hk.some_.symm
  have HF := hd hfar
  clear hfar
  go_wp2_with (at_builtin; go_loud (refine wpList_append_row rfl _ _ 43 rfl (Of A) 47 i0 (.agg #[.int .i64 0, .int .i64 0]) 2 16 Try.underlying43 hi hz0 hz1 hz2 rfl A n c (alEnc (dropAl al who)) rfl (hr.own_.alloc _) ⟨w1.heap.size, 0, none⟩ 1 1 [.int .i64 who, .int .i64 at_] rfl rfl (cells_two _ _ _ _ _ rfl) (by simp [Value.oneCell']) (by omega) (by unfold maxLen; omega) (by omega) ?_; intro A2 c2 w2 hown2 hchg2; have hb2 := (HB.o.alloc (.cells #[.int .i64 who, .int .i64 at_] 47)).chg hchg2 HF.o; have h1 := hb2.at_ 1 rfl; have hf := hb2.frozen 1; have HB2 := hd hb2; clear hb2))
  go_end0
  have hsz := hc1.size
  have hlen : (setAl al who at_).length = n + 1 := by simp [setAl, HN.o]
  refine ⟨rfl, ⟨A2, c2, ?_, ?_, .inl hS⟩, ?_⟩
  · rw [hlen]; exact HB2.o.set_ 1 _
  · rw [hlen, setAl, alEnc_snoc]
    refine (hown2.mono fun k hk => ?_).far (hown2.ne_blk HB2.o (by decide)) _
    rcases hk with hk | hk
    · exact .inl (hr.of_sub k hk)
    · simp at hk; exact .inr (by omega)
  · exact ((hc1.alloc _).trans hchg2 (fun k hk => .inl (hr.of_sub k hk))).setCell (.inl hS) _
end Go.Proofs.Ytdnmeffglpmlaaa
