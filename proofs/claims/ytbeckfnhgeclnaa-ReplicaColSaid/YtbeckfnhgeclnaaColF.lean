/-
  A law's own collection; the chapter's example.
-/
import Derived.Test.YtbeckfnhgeclnaaColS
import Derived.Test.YtbeckfnhgeclnaaIts
set_option linter.unusedVariables false
set_option linter.unusedSimpArgs false
namespace Go.Proofs.Ytbeckfnhgeclnaa
open Go.RowKit Go.Lib

/-- What Since says. -/
def SinceIs (s : Cs) (tok : Int) (l' : List It) (err : Int) : Prop :=
  (tok = 0 ∧ err = 0 ∧ SortedOf (liveL s.ml) l') ∨ (tok ≠ 0 ∧ s.bad tok = true ∧ err = 8 ∧ l' = []) ∨ (tok ≠ 0 ∧ s.bad tok = false ∧ err = 0 ∧ SortedOf (outP s.ml tok s.log.reverse) l')
theorem since_calls (w : World) (S : Nat → Prop) (b : Nat) (s : Cs) (tok : Int) (h : ColR w S b s) (hl : s.ml.length ≤ 1000000) (hlg : s.log.length ≤ 1000000) (hu : ∀ x ∈ s.log, x.2.length ≤ maxLen) :
    Calls Try.prog 34 #[.pointer (some ⟨b, 0, none⟩), .int .i64 tok] w fun e w' => ∃ l' err A c, e = .returned (.tuple #[.slice A l'.length c, .int .i64 err]) ∧ SinceIs s tok l' err ∧ Row w' (From w.heap.size) 41 4 A l'.length c (itsEnc l') ∧ Below w.heap.size w w' := by
  by_cases h0 : tok = 0
  · subst h0
    exact (since_zero w S b s h hl).mono fun e w' ⟨l', A, c, h1, h2, h3, h4⟩ => ⟨l', 0, A, c, h1, .inl ⟨rfl, rfl, h2⟩, h3, h4⟩
  · cases hb : s.bad tok with
    | true => exact (since_bad w S b s tok h h0 hb).mono fun e w' ⟨h1, h2⟩ => ⟨[], 8, none, 0, h1, .inr (.inl ⟨h0, hb, rfl, rfl⟩), Row.nil _ _ _ _, h2⟩
    | false => exact (since_some w S b s tok h hl hlg hu h0 hb).mono fun e w' ⟨l', A, c, h1, h2, h3, h4⟩ => ⟨l', 0, A, c, h1, .inr (.inr ⟨h0, hb, rfl, h2⟩), h3, h4⟩

/-- A collection of a law's own. -/
structure OwnC (B : Nat) (w wr : World) (b : Nat) (s : Cs) : Prop where
  ex : ∃ S : Nat → Prop, ColR wr S b s ∧ ∀ q, S q → w.heap.size ≤ q ∧ q < B
  below : Below w.heap.size w wr
  le : B ≤ wr.heap.size
  ok : s.Ok
  uid : ∀ x ∈ s.log, x.2.length ≤ maxLen
theorem OwnC.bel {B : Nat} {w wr w' : World} {b : Nat} {s : Cs} (h : OwnC B w wr b s) (hb : Below wr.heap.size wr w') : OwnC B w w' b s := by
  obtain ⟨⟨S, h1, h2⟩, h3, h4, h5, h6⟩ := h
  exact ⟨⟨S, h1.below hb, h2⟩, h3.trans (hb.mono h3.size), Nat.le_trans h4 hb.size, h5, h6⟩
theorem OwnC.drew {B : Nat} {w wr : World} {b : Nat} {s : Cs} (h : OwnC B w wr b s) : OwnC B w wr.drew b s := h.bel (bdrewN (Below.refl _ wr) 1)
theorem ownc_new {w wr : World} (hw : Below w.heap.size w wr) (birth cards log : Int) :
    Calls Try.prog 42 #[.int .i64 birth, .int .i64 cards, .int .i64 log] wr fun e w' => ∃ b, e = .returned (.pointer (some ⟨b, 0, none⟩)) ∧ OwnC w'.heap.size w w' b (Cs.new birth cards log) ∧ Below wr.heap.size wr w' :=
  (cnew_calls wr (fun q => wr.heap.size ≤ q) birth cards log (fun _ h => h)).mono fun e w' ⟨b, h1, h2, h3, h4⟩ =>
    ⟨b, h1, ⟨⟨_, h3.shrink, fun q hq => ⟨Nat.le_trans hw.size hq.1, hq.2⟩⟩, hw.trans (h4.mono hw.size), Nat.le_refl _, Cs.new_ok _ _ _, fun x hx => by cases hx⟩, h4⟩
theorem pushL_uid {cap : Int} {l : List Ch} {x : Ch} (h : ∀ y ∈ l, y.2.length ≤ maxLen) (hx : x.2.length ≤ maxLen) : ∀ y ∈ pushL cap l x, y.2.length ≤ maxLen := by
  intro y hy
  unfold pushL at hy
  rcases List.mem_append.1 hy with hy | hy
  · split at hy
    · exact h y (List.mem_of_mem_drop hy)
    · exact h y hy
  · rw [List.mem_singleton.1 hy]; exact hx
theorem step_uid {s : Cs} {o : OpV} {t : Int} (h : ∀ y ∈ s.log, y.2.length ≤ maxLen) (hx : o.uid.length ≤ maxLen) : ∀ y ∈ (s.step o t).2.log, y.2.length ≤ maxLen := by
  unfold Cs.step
  split
  · exact h
  · exact pushL_uid h hx
theorem ownc_apply {B : Nat} {w wr : World} {b : Nat} {s : Cs} (h : OwnC B w wr b s) (o : OpV) (t : Int) (hl : s.ml.length < 1000000) (hlg : s.log.length < 1000000) (hby : bytesM s.ml ≤ 1000000000000) (hcl : o.card.length ≤ 1000000000000) (hu : o.uid.length ≤ maxLen) :
    Calls Try.prog 44 #[.pointer (some ⟨b, 0, none⟩), .agg (opEnc o).toArray, .int .i64 t] wr fun e w' => e = .returned (.bool (s.step o t).1) ∧ OwnC w'.heap.size w w' b (s.step o t).2 ∧ Chg (fun q => w.heap.size ≤ q ∧ q < B) wr w' := by
  obtain ⟨⟨S, h1, h2⟩, h3, h4, h5, h6⟩ := h
  refine (apply_calls wr S b s o t h1 h5 (fun q hq => Nat.lt_of_lt_of_le (h2 q hq).2 h4) hl hlg hby hcl).mono fun e w' ⟨he, hc, hg⟩ => ⟨he, ⟨⟨_, hc.shrink, fun q hq => ?_⟩, ?_, Nat.le_refl _, Cs.step_ok h5 o t, step_uid h6 hu⟩, hg.mono h2⟩
  · obtain ⟨hq | hq, hq2⟩ := hq
    · exact ⟨(h2 q hq).1, hq2⟩
    · exact ⟨Nat.le_trans h3.size hq, hq2⟩
  · exact h3.trans (hg.below (fun q hq => (h2 q hq).1) h3.size)
theorem ownc_since {B : Nat} {w wr : World} {b : Nat} {s : Cs} (h : OwnC B w wr b s) (tok : Int) (hl : s.ml.length ≤ 1000000) (hlg : s.log.length ≤ 1000000) :
    Calls Try.prog 34 #[.pointer (some ⟨b, 0, none⟩), .int .i64 tok] wr fun e w' => ∃ l' err A c, e = .returned (.tuple #[.slice A l'.length c, .int .i64 err]) ∧ SinceIs s tok l' err ∧ Row w' (From wr.heap.size) 41 4 A l'.length c (itsEnc l') ∧ Below wr.heap.size wr w' := by
  obtain ⟨⟨S, h1, h2⟩, h3, h4, h5, h6⟩ := h
  exact since_calls wr S b s tok h1 hl hlg h6
theorem ownc_live {B : Nat} {w wr : World} {b : Nat} {s : Cs} (h : OwnC B w wr b s) (hl : s.ml.length ≤ 1000000) :
    Calls Try.prog 40 #[.pointer (some ⟨b, 0, none⟩)] wr fun e w' => ∃ A c, e = .returned (.slice A s.ml.length c) ∧ Row w' (From wr.heap.size) 41 4 A s.ml.length c (itsEnc (liveL s.ml)) ∧ Below wr.heap.size wr w' := by
  obtain ⟨⟨S, h1, h2⟩, _⟩ := h
  exact clive_calls wr S b s h1 hl
theorem ownc_get {B : Nat} {w wr : World} {b : Nat} {s : Cs} (h : OwnC B w wr b s) (k : List UInt8) (hl : s.ml.length ≤ 1000000) :
    Calls Try.prog 38 #[.pointer (some ⟨b, 0, none⟩), .string (bs k)] wr fun e w' => e = .returned (.tuple #[.int .i64 (verM s.ml k), .string (bs (txtM s.ml k)), .bool (hasM s.ml k)]) ∧ Below wr.heap.size wr w' := by
  obtain ⟨⟨S, h1, h2⟩, _⟩ := h
  exact cget_calls wr S b s k h1 hl
theorem ownc_len {B : Nat} {w wr : World} {b : Nat} {s : Cs} (h : OwnC B w wr b s) : Calls Try.prog 39 #[.pointer (some ⟨b, 0, none⟩)] wr fun e w' => e = .returned (.int .i64 (s.ml.length : Nat)) ∧ wr = w' := by
  obtain ⟨⟨S, h1, h2⟩, _⟩ := h
  exact clen_calls wr S b s h1
theorem ownc_bytes {B : Nat} {w wr : World} {b : Nat} {s : Cs} (h : OwnC B w wr b s) : Calls Try.prog 56 #[.pointer (some ⟨b, 0, none⟩)] wr fun e w' => e = .returned (.int .i64 (bytesM s.ml)) ∧ wr = w' := by
  obtain ⟨⟨S, h1, h2⟩, _⟩ := h
  exact cbytes_calls wr S b s h1
theorem ownc_latest {B : Nat} {w wr : World} {b : Nat} {s : Cs} (h : OwnC B w wr b s) : Calls Try.prog 37 #[.pointer (some ⟨b, 0, none⟩)] wr fun e w' => e = .returned (.int .i64 s.latest) ∧ wr = w' := by
  obtain ⟨⟨S, h1, h2⟩, _⟩ := h
  exact clatest_calls wr S b s h1
theorem ownc_hor {B : Nat} {w wr : World} {b : Nat} {s : Cs} (h : OwnC B w wr b s) : Calls Try.prog 36 #[.pointer (some ⟨b, 0, none⟩)] wr fun e w' => e = .returned (.int .i64 s.horizon) ∧ wr = w' := by
  obtain ⟨⟨S, h1, h2⟩, _⟩ := h
  exact chor_calls wr S b s h1

theorem it_eql (x y : It) (W : World) : (binOp .eql 41 (.agg #[.string (bs x.uid), .int .i64 x.ver, .bool x.gone, .string (bs x.card)]) (.agg #[.string (bs y.uid), .int .i64 y.ver, .bool y.gone, .string (bs y.card)])).run Try.prog W = .ok (.bool (x == y)) W := by
  have u1 := Try.underlying2
  have a1 := Try.isAgg2
  have z1 := Try.sizeOf2
  have u2 := Try.underlying4
  have a2 := Try.isAgg4
  have z2 := Try.sizeOf4
  have u3 := Try.underlying9
  have a3 := Try.isAgg9
  have z3 := Try.sizeOf9
  have hS : Try.prog.underlying 41 = some (.struct (Try.prog.fieldsOf 41)) := by kernel_rfl
  have hp : Try.prog.stoodInHeld 41 = false := by kernel_rfl
  rw [run_eql_struct, show (10000 : Nat) = 9999 + 1 from rfl, run_equalIn_agg W 9999 41 _ _ hS hp]
  simp only [Program.fieldsOf, Try.underlying41]
  go_simp
  obtain ⟨a, b, c, d⟩ := x
  obtain ⟨a', b', c', d'⟩ := y
  have e : ∀ l : List UInt8, (bs l).toList = l := fun l => by rw [Lib.toList_data]; rfl
  simp only [e]
  by_cases h1 : a = a'
  · by_cases h2 : b = b'
    · by_cases h3 : c = c'
      · by_cases h4 : d = d'
        · simp [h1, h2, h3, h4]
        · simp [h1, h2, h3, h4]
      · simp [h1, h2, h3]
    · simp [h1, h2]
  · simp [h1]

def op1 : OpV := ⟨false, [97], [110, 97, 109, 101, 58, 65, 110, 110, 10], 0, 0⟩
def op2 : OpV := ⟨true, [97], [], 0, 0⟩
def cs1 : Cs := ⟨4, 4, [([97], ⟨6, [110, 97, 109, 101, 58, 65, 110, 110, 10]⟩)], [(6, [97])], 6, 5⟩
def cs2 : Cs := ⟨4, 4, [], [(6, [97]), (7, [97])], 7, 5⟩
theorem first_s1 : (Cs.new 5 4 4).step op1 6 = (true, cs1) := by rfl
theorem first_s2 : cs1.step op2 7 = (true, cs2) := by rfl
def it7 : It := ⟨[97], 7, true, []⟩
theorem first_since {l : List It} {e : Int} (h : SinceIs cs2 5 l e) : e = 0 ∧ l = [it7] := by
  rcases h with ⟨h, _⟩ | ⟨_, h, _⟩ | ⟨_, _, h1, h2, _⟩
  · cases h
  · cases h
  · refine ⟨h1, ?_⟩
    have e1 : outP cs2.ml 5 cs2.log.reverse = [it7] := by rfl
    rw [e1] at h2
    exact List.perm_singleton.1 h2
theorem first_since4 {l : List It} {e : Int} (h : SinceIs cs2 4 l e) : e = 8 ∧ l = [] := by
  rcases h with ⟨h, _⟩ | ⟨_, h, h1, h2⟩ | ⟨_, h, _⟩
  · cases h
  · exact ⟨h1, h2⟩
  · cases h

set_option maxRecDepth 100000 in
set_option maxHeartbeats 2000000 in
theorem cfirst_calls (w : World) : Calls Try.prog 31 #[] w fun e w' => e = .returned (.bool true) ∧ Below w.heap.size w w' := by
  go_enter Try.func31, Try.ntmps31
  go_wp2_with fail
  refine (ownc_new (Below.refl _ w) 5 4 4).mono ?_
  rintro e w1 ⟨b, rfl, hO, _⟩
  have HO := hd hO
  clear hO
  go_wp2_with fail
  have hA := ownc_apply HO.o op1 6 (by decide) (by decide) (by decide) (by decide) (by decide)
  rw [first_s1] at hA
  refine hA.mono ?_
  rintro e w2 ⟨rfl, hO2, _⟩
  have HO2 := hd hO2
  clear hO2 hA HO
  go_wp2_with fail
  have hA := ownc_apply HO2.o op2 7 (by decide) (by decide) (by decide) (by decide) (by decide)
  rw [first_s2] at hA
  refine hA.mono ?_
  rintro e w3 ⟨rfl, hO3, _⟩
  have HO3 := hd hO3
  clear hO3 hA HO2
  go_wp2_with fail
  refine (ownc_since HO3.o 5 (by decide) (by decide)).mono ?_
  rintro e w4 ⟨l, er, A, c, rfl, hs, hr, b4⟩
  obtain ⟨rfl, rfl⟩ := first_since hs
  have HO4 := hd (HO3.o.bel b4)
  have HR := hd hr
  clear hs hr b4 HO3
  go_wp2_with fail
  refine (ownc_since HO4.o 4 (by decide) (by decide)).mono ?_
  rintro e w5 ⟨l, er, A', c', rfl, hs, _, b5⟩
  obtain ⟨rfl, rfl⟩ := first_since4 hs
  have HO5 := hd (HO4.o.bel b5)
  obtain ⟨g, rfl, _, hgw, _, _, hc, _⟩ := (HR.o.below b5).at_ (by decide)
  have k0 : w5.cell? ⟨g, 0, none⟩ = some (.string (bs [97])) := hc 0 _ rfl
  have k1 : w5.cell? ⟨g, 1, none⟩ = some (.int .i64 7) := hc 1 _ rfl
  have k2 : w5.cell? ⟨g, 2, none⟩ = some (.bool true) := hc 2 _ rfl
  have k3 : w5.cell? ⟨g, 3, none⟩ = some (.string (bs [])) := hc 3 _ rfl
  have heq := it_eql it7 it7
  have hbb : (it7 == it7) = true := by simp
  rw [hbb] at heq
  simp only [it7] at heq
  have HE : Hd (bs [] = ⟨#[]⟩ ∧ bs [97] = ⟨#[97]⟩) := hd ⟨rfl, rfl⟩
  rw [HE.o.1, HE.o.2] at heq
  rw [HE.o.2] at k0
  rw [HE.o.1] at k3
  clear hs b5 hc HR HO4 hbb
  go_wp2_with fail
  refine (ownc_latest HO5.o).mono ?_
  rintro e w6 ⟨rfl, rfl⟩
  go_wp2_with fail
  refine (ownc_hor HO5.o).mono ?_
  rintro e w6 ⟨rfl, rfl⟩
  go_wp2
  go_ret
  exact ⟨rfl, HO5.o.below⟩

end Go.Proofs.Ytbeckfnhgeclnaa
