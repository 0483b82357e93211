/-
  What Since tells, plainly: the program's list and the reference's are the same.
-/
import Derived.Test.YtbeckfnhgeclnaaRColS
import Derived.Test.YtbeckfnhgeclnaaMade
set_option linter.unusedVariables false
set_option linter.unusedSimpArgs false
namespace Go.Proofs.Ytbeckfnhgeclnaa
open Go.RowKit Go.Lib

theorem ind_snoc {α : Type} {P : List α → Prop} (h0 : P []) (h1 : ∀ l x, P l → P (l ++ [x])) : ∀ l, P l := by
  have : ∀ (k : Nat) (l : List α), l.length = k → P l := by
    intro k
    induction k with
    | zero => intro l h; obtain rfl : l = [] := List.eq_nil_of_length_eq_zero h; exact h0
    | succ k ih =>
      intro l h
      obtain ⟨l', x, rfl⟩ : ∃ l' x, l = l' ++ [x] := ⟨l.dropLast, l.getLast (by rintro rfl; simp at h), (List.dropLast_concat_getLast _).symm⟩
      exact h1 l' x (ih l' (by simpa using h))
  exact fun l => this _ l rfl
theorem itAt_uid (ml : ML Ce) (x : Ch) : (itAt ml x).uid = x.2 := by
  unfold itAt
  split <;> rfl
theorem seenR_app (a : List It) (x : It) (u : List UInt8) : seenR (a ++ [x]) u = (seenR a u || x.uid == u) := by simp [seenR, List.any_append]
theorem seen_outR (ml : ML Ce) (tok : Int) : ∀ l : List Ch, (∀ x ∈ l, tok < x.1) → ∀ u, seenR (outR ml tok l) u = decide (0 < chSeen l u) := by
  refine ind_snoc (fun _ _ => by simp [outR, seenR, chSeen]) fun l x ih h u => ?_
  have hx := h x (by simp)
  have hl := ih (fun y hy => h y (by simp [hy]))
  rw [outR_snoc, chSeen_snoc]
  unfold stepR
  by_cases hs : seenR (outR ml tok l) x.2 = true
  · rw [if_pos (.inr hs), hl]
    have h2 := hl x.2
    rw [hs] at h2
    have h3 : 0 < chSeen l x.2 := by simpa using h2.symm
    by_cases he : x.2 = u
    · subst he; simp [h3]
    · simp [he]
  · rw [if_neg (by rintro (h | h); omega; exact hs h), seenR_app, hl, itAt_uid]
    by_cases he : x.2 = u
    · subst he; simp
    · simp [he]
/-- Tokens that fall (the log from behind). -/
def Falls (l : List Ch) : Prop := l.Pairwise fun x y => y.1 ≤ x.1
theorem outP_eq (ml : ML Ce) (tok : Int) : ∀ l : List Ch, Falls l → outP ml tok l = outR ml tok l := by
  refine ind_snoc (fun _ => by simp [outP, outS, outR]) fun l x ih h => ?_
  have h' := List.pairwise_append.1 h
  rw [outP_snoc, outR_snoc, ih h'.1]
  unfold stepS stepR
  by_cases c : x.1 ≤ tok
  · rw [if_pos (.inl c), if_pos (.inl c), List.append_nil]
  · have hs := seen_outR ml tok l (fun y hy => by have := h'.2.2 y hy x (by simp); omega) x.2
    by_cases c2 : 0 < chSeen l x.2
    · rw [if_pos (.inr c2), if_pos (.inr (by rw [hs]; simpa using c2)), List.append_nil]
    · rw [if_neg (by rintro (h | h); exact c h; exact c2 h), if_neg (by rintro (h | h); exact c h; rw [hs] at h; exact c2 (by simpa using h))]
theorem outR_uniq (ml : ML Ce) (tok : Int) : ∀ l : List Ch, ∀ x ∈ outR ml tok l, ∀ y ∈ outR ml tok l, x.uid = y.uid → x = y := by
  refine ind_snoc (fun x hx => by simp [outR] at hx) fun l z ih x hx y hy hu => ?_
  rw [outR_snoc] at hx hy
  unfold stepR at hx hy
  by_cases c : z.1 ≤ tok ∨ seenR (outR ml tok l) z.2 = true
  · rw [if_pos c] at hx hy
    exact ih x hx y hy hu
  · rw [if_neg c] at hx hy
    have hno : ∀ y ∈ outR ml tok l, y.uid ≠ z.2 := fun y hy he => c (.inr (by
      unfold seenR
      rw [List.any_eq_true]
      exact ⟨y, hy, by simpa using he⟩))
    rcases List.mem_append.1 hx with hx | hx <;> rcases List.mem_append.1 hy with hy | hy
    · exact ih x hx y hy hu
    · rw [List.mem_singleton] at hy
      subst hy
      rw [itAt_uid] at hu
      exact absurd hu (hno x hx)
    · rw [List.mem_singleton] at hx
      subst hx
      rw [itAt_uid] at hu
      exact absurd hu.symm (hno y hy)
    · rw [List.mem_singleton] at hx hy
      rw [hx, hy]
theorem live_uniq {ml : ML Ce} (hr : Rising ml) : ∀ x ∈ liveL ml, ∀ y ∈ liveL ml, x.uid = y.uid → x = y := by
  intro x hx y hy hu
  unfold liveL at hx hy
  obtain ⟨a, ha, rfl⟩ := List.mem_map.1 hx
  obtain ⟨b, hb, rfl⟩ := List.mem_map.1 hy
  obtain ⟨i, hi, rfl⟩ := List.getElem_of_mem ha
  obtain ⟨j, hj, rfl⟩ := List.getElem_of_mem hb
  have hp := List.pairwise_iff_getElem.1 hr
  have hk : ml[i].1 = ml[j].1 := hu
  by_cases hij : i = j
  · subst hij; rfl
  · exfalso
    by_cases h : i < j
    · have := hp i j hi hj h
      rw [hk, cmp_self] at this
      omega
    · have := hp j i hj hi (by omega)
      rw [hk, cmp_self] at this
      omega

/-- Tokens rise in the log, up to Latest. -/
structure Cs.Tok (s : Cs) : Prop where
  rise : s.log.Pairwise fun x y => x.1 ≤ y.1
  le : ∀ x ∈ s.log, x.1 ≤ s.latest
theorem Cs.new_tok (birth cards log : Int) : (Cs.new birth cards log).Tok := ⟨List.Pairwise.nil, fun _ h => by cases h⟩
theorem pushL_sub {cap : Int} {l : List Ch} {x y : Ch} (h : y ∈ pushL cap l x) : y ∈ l ∨ y = x := by
  unfold pushL at h
  rcases List.mem_append.1 h with h | h
  · left
    split at h
    · exact List.mem_of_mem_drop h
    · exact h
  · right
    simpa using h
theorem Cs.step_tok {s : Cs} (h : s.Tok) (o : OpV) (t : Int) : (s.step o t).2.Tok := by
  unfold Cs.step
  cases hn : s.no o t with
  | true => exact h
  | false =>
    have ht : s.latest ≤ t := by
      unfold Cs.no at hn
      simp only [Bool.or_eq_false_iff, decide_eq_false_iff_not] at hn
      omega
    refine ⟨?_, fun x hx => ?_⟩
    · show (pushL s.cap s.log (t, o.uid)).Pairwise _
      unfold pushL
      refine List.pairwise_append.2 ⟨?_, by simp, fun x hx y hy => ?_⟩
      · split
        · exact h.rise.sublist (List.drop_sublist _ _)
        · exact h.rise
      · rw [List.mem_singleton] at hy
        subst hy
        have hm : x ∈ s.log := by
          split at hx
          · exact List.mem_of_mem_drop hx
          · exact hx
        have := h.le x hm
        show x.1 ≤ t
        omega
    · rcases pushL_sub hx with h2 | h2
      · have := h.le x h2
        show x.1 ≤ t
        omega
      · subst h2
        exact Int.le_refl _
theorem madeF_ind {P : Cs → Prop} (hs : ∀ s o t, P s → P (s.step o t).2) : ∀ (l : List ActV) (s : Cs), P s → P (madeF s l)
  | [], _, h => h
  | x :: l, s, h => madeF_ind hs l _ (hs s x.1 x.2 h)
theorem made_tok (birth cards log : Int) (l : List ActV) : (madeF (Cs.new birth cards log) l).Tok := madeF_ind (P := Cs.Tok) (fun _ o t h => Cs.step_tok h o t) l _ (Cs.new_tok _ _ _)
theorem Cs.Tok.falls {s : Cs} (h : s.Tok) : Falls s.log.reverse := List.pairwise_reverse.2 h.rise

theorem since_agree {s : Cs} (hr : Rising s.ml) (ht : s.Tok) {tok : Int} {l1 l2 : List It} {e1 e2 : Int} (h1 : SinceIs s tok l1 e1) (h2 : RSinceIs s tok l2 e2) : e1 = e2 ∧ l1 = l2 := by
  rcases h1 with ⟨a, b, c⟩ | ⟨a, b, c, d⟩ | ⟨a, b, c, d⟩ <;> rcases h2 with ⟨a', b', c'⟩ | ⟨a', b', c', d'⟩ | ⟨a', b', c', d'⟩
  · exact ⟨by rw [b, b'], sorted_same c c' (live_uniq hr)⟩
  · exact absurd a a'
  · exact absurd a a'
  · exact absurd a' a
  · exact ⟨by rw [c, c'], by rw [d, d']⟩
  · rw [b] at b'; cases b'
  · exact absurd a' a
  · rw [b] at b'; cases b'
  · rw [outP_eq _ _ _ ht.falls] at d
    exact ⟨by rw [c, c'], sorted_same d d' (outR_uniq _ _ _)⟩

end Go.Proofs.Ytbeckfnhgeclnaa
