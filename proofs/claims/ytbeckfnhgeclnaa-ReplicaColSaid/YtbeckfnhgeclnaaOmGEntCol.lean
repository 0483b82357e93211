/-
  A map that rises (EntCol): New, Get, Put, Del.
-/
import Derived.Test.YtbeckfnhgeclnaaOmFEntCol
import Derived.Test.YtbeckfnhgeclnaaInsEntCol
import Derived.Test.YtbeckfnhgeclnaaDelEntCol
import Derived.Deep.QuietTactic
import Derived.BigRegion
import Derived.StillTailTactics
set_option linter.unusedVariables false
set_option linter.unusedSimpArgs false
namespace Go.Proofs.Ytbeckfnhgeclnaa
open Go.RowKit Go.Lib

/-- The map at block b; its blocks lie in S. -/
def OmEntCol (w : World) (S : Nat → Prop) (b : Nat) (l : ML Ce) : Prop :=
  ∃ A c, Blk w b 154 #[.slice A l.length c] ∧ Row w S 151 3 A l.length c (meEntCol l) ∧ S b ∧ Rising l
theorem OmEntCol.lt {w : World} {S : Nat → Prop} {b : Nat} {l : ML Ce} (h : OmEntCol w S b l) : b < w.heap.size := by
  obtain ⟨A, c, hb, _⟩ := h
  exact hb.lt
theorem OmEntCol.rise {w : World} {S : Nat → Prop} {b : Nat} {l : ML Ce} (h : OmEntCol w S b l) : Rising l := by
  obtain ⟨A, c, hb, _, _, h⟩ := h
  exact h
theorem OmEntCol.mono {w : World} {S T : Nat → Prop} {b : Nat} {l : ML Ce} (h : OmEntCol w S b l) (hs : ∀ k, S k → T k) : OmEntCol w T b l := by
  obtain ⟨A, c, hb, hr, hS, hi⟩ := h
  exact ⟨A, c, hb, hr.mono hs, hs _ hS, hi⟩
theorem OmEntCol.chg {w w' : World} {S T : Nat → Prop} {b : Nat} {l : ML Ce} (h : OmEntCol w S b l) (hc : Chg T w w') (hd : ∀ k, S k → ¬ T k) : OmEntCol w' S b l := by
  obtain ⟨A, c, hb, hr, hS, hi⟩ := h
  exact ⟨A, c, hb.chg hc (hd _ hS), hr.chg hc hd, hS, hi⟩
theorem OmEntCol.drew {w : World} {S : Nat → Prop} {b : Nat} {l : ML Ce} (h : OmEntCol w S b l) : OmEntCol w.drew S b l := by
  obtain ⟨A, c, hb, hr, hS, hi⟩ := h
  exact ⟨A, c, hb.drew, hr.drew, hS, hi⟩
theorem OmEntCol.below {w w' : World} {S : Nat → Prop} {b : Nat} {l : ML Ce} (h : OmEntCol w S b l) (hb : Below w.heap.size w w') : OmEntCol w' S b l :=
  h.chg (Chg.of_below Non hb) (fun _ _ => id)
theorem OmEntCol.shrink {w : World} {S : Nat → Prop} {b : Nat} {l : ML Ce} (h : OmEntCol w S b l) : OmEntCol w (fun k => S k ∧ k < w.heap.size) b l := by
  obtain ⟨A, c, hb, hr, hS, hi⟩ := h
  exact ⟨A, c, hb, ⟨hr.own, fun a ha => ⟨hr.fp a ha, hr.lt ha⟩⟩, ⟨hS, hb.lt⟩, hi⟩

theorem meEntCol_erase (l : ML Ce) (p : Nat) : meEntCol (l.eraseIdx p) = (meEntCol l).take (p * 3) ++ (meEntCol l).drop ((p + 1) * 3) := by
  rw [meEntCol, meEntCol, flat_take enEntCol 3 enEntCol_len, flat_drop enEntCol 3 enEntCol_len, List.eraseIdx_eq_take_drop_succ, List.flatMap_append]
theorem meEntCol_ins (l : ML Ce) (p : Nat) (x : List UInt8 × Ce) : meEntCol (l.take p ++ x :: l.drop p) = (meEntCol l).take (p * 3) ++ enEntCol x ++ (meEntCol l).drop (p * 3) := by
  rw [meEntCol, meEntCol, flat_take enEntCol 3 enEntCol_len, flat_drop enEntCol 3 enEntCol_len, List.flatMap_append, List.flatMap_cons, List.append_assoc]
theorem hasM_at {V : Type} {l : ML V} {k : List UInt8} (hs : Rising l) (h : hasM l k = true) : ∃ (hp : place l k < l.length), (l[place l k]).1 = k ∧ getM l k = some (l[place l k]).2 := by
  have e := getM_place (k := k) hs
  unfold hasM at h
  rw [e] at h ⊢
  by_cases hp : place l k < l.length
  · rw [List.getElem?_eq_getElem hp] at h ⊢
    by_cases hk : (l[place l k]).1 = k
    · exact ⟨hp, hk, by simp [hk]⟩
    · simp [hk] at h
  · rw [List.getElem?_eq_none (by omega)] at h
    simp at h

theorem findEntCol_calls (w : World) (S : Nat → Prop) (b : Nat) (l : ML Ce) (k : List UInt8) (h : OmEntCol w S b l) (hl : l.length ≤ 1000000) :
    Calls Try.prog 91 #[.pointer (some ⟨b, 0, none⟩), .string (bs k)] w fun e w' => e = .returned (.tuple #[.int .i64 (place l k : Nat), .bool (hasM l k)]) ∧ Below w.heap.size w w' := by
  obtain ⟨A, c, hb, hr, hS, hi⟩ := h
  have hc := hd (bsfEntCol_calls w S A c l k hr hi hl)
  have hb0 := hb.at_ 0 rfl
  generalize l.length = n at *
  generalize place l k = p at *
  generalize hasM l k = q at *
  clear hr hb hi
  go_enter Try.func91, Try.ntmps91
  go_wp2_with fail
  refine hc.o.mono ?_
  rintro e w1 ⟨rfl, hbe⟩
  go_wp2_with fail
  go_ret2
  exact ⟨rfl, hbe⟩

theorem omnewEntCol_calls (w : World) (S : Nat → Prop) (hS : S w.heap.size) :
    Calls Try.prog 70 #[] w fun e w' => e = .returned (.pointer (some ⟨w.heap.size, 0, none⟩)) ∧ OmEntCol w' S w.heap.size [] ∧ Below w.heap.size w w' := by
  go_enter Try.func70, Try.ntmps70
  go_wp2
  go_ret
  exact ⟨rfl, ⟨none, 0, Blk.new _ _ _, Row.nil _ _ _ _, hS, List.Pairwise.nil⟩, (Below.refl _ _).alloc (Nat.le_refl _) _⟩

theorem omdelEntCol_calls (w : World) (S : Nat → Prop) (b : Nat) (l : ML Ce) (k : List UInt8) (h : OmEntCol w S b l) (hl : l.length ≤ 1000000) :
    Calls Try.prog 72 #[.pointer (some ⟨b, 0, none⟩), .string (bs k)] w fun e w' => e = .returned (.bool (hasM l k)) ∧ OmEntCol w' (Plus S w.heap.size) b (delM l k) ∧ Chg S w w' := by
  have hc := hd (findEntCol_calls w S b l k h hl)
  have hsp := hd (delM_spec k h.rise)
  cases hq : hasM l k with
  | false =>
    have e : delM l k = l := by simp [delM, hq]
    rw [hq] at hc
    rw [e]
    have H := hd h
    generalize place l k = p at *
    clear h hsp hq e
    go_enter Try.func72, Try.ntmps72
    go_wp2_with fail
    refine hc.o.mono ?_
    rintro e w1 ⟨rfl, hbe⟩
    go_wp2_with fail
    go_ret
    exact ⟨rfl, (H.o.below hbe).mono (fun _ h => .inl h), Chg.of_below _ hbe⟩
  | true =>
    obtain ⟨hp, hpk, _⟩ := hasM_at h.rise hq
    have e : delM l k = l.eraseIdx (place l k) := by simp [delM, hq]
    rw [hq] at hc
    rw [e] at hsp ⊢
    have H := hd h
    obtain ⟨p, hpp⟩ : ∃ p, place l k = p := ⟨_, rfl⟩
    rw [hpp] at hp hc hsp ⊢
    clear h hq e hpk hpp
    obtain ⟨n, hn⟩ : ∃ n, l.length = n := ⟨_, rfl⟩
    have HN := hd hn
    have hpn : p < n := by omega
    have hl' : n ≤ 1000000 := by omega
    clear hn hp hl
    go_enter Try.func72, Try.ntmps72
    go_wp2_with fail
    refine hc.o.mono ?_
    rintro e w1 ⟨rfl, hbe⟩
    obtain ⟨A, c, hb, hr, hS, _⟩ := H.o.below hbe
    rw [HN.o] at hb hr
    have hb0 := hb.at_ 0 rfl
    have hne := hr.ne_blk hb (by decide)
    have hB := hd hb
    clear hb
    have hwr : IntKind.i64.wrap ((p : Int) + 1) = (p : Int) + 1 := by rw [IntKind.wrap_i64]; omega
    go_wp2_with fail
    refine (delEntCol_calls w1 (Of A) A n c p (meEntCol l) hr.own_ (meEntCol_one l) hpn).mono ?_
    rintro e w2 ⟨rfl, hr2, hc2⟩
    have hb2 : Blk w2 b 154 #[.slice A n c] := hB.o.chg hc2 (fun hk => by
      cases A with
      | none => exact Of.none hk
      | some a => exact hne a rfl hk.some_.symm)
    have h1 := hb2.at_ 0 rfl
    have hf := hb2.frozen 0
    have HB2 := hd hb2
    clear hb2
    go_wp2
    go_ret
    have hlen : (l.eraseIdx p).length = n - 1 := by rw [List.length_eraseIdx, if_pos (by rw [HN.o]; exact hpn), HN.o]
    refine ⟨rfl, ⟨A, c, ?_, ?_, .inl hS, hsp.o.1⟩, ?_⟩
    · rw [hlen]; exact HB2.o.set_ 0 _
    · rw [hlen, meEntCol_erase]
      exact (hr2.far hne _).mono (fun q hq => .inl (hr.of_sub q hq))
    · exact (((Chg.refl S w).then_below hbe).trans hc2 (fun q hq => .inl (hr.of_sub q hq))).setCell (.inl hS) _

end Go.Proofs.Ytbeckfnhgeclnaa
