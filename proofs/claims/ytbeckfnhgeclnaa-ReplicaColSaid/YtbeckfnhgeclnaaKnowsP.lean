/-
  What Since tells is so: plainly.
-/
import Derived.Test.YtbeckfnhgeclnaaSinceP
set_option linter.unusedVariables false
set_option linter.unusedSimpArgs false
namespace Go.Proofs.Ytbeckfnhgeclnaa
open Go.RowKit Go.Lib

/-- The last token of a UID in the log. -/
def lastTok (l : List Ch) (u : List UInt8) : Option Int := (l.reverse.find? fun x => x.2 == u).map (·.1)
theorem lastTok_snoc (l : List Ch) (x : Ch) (u : List UInt8) : lastTok (l ++ [x]) u = if x.2 = u then some x.1 else lastTok l u := by
  unfold lastTok
  rw [List.reverse_append, List.reverse_singleton, List.singleton_append, List.find?_cons]
  by_cases h : x.2 = u
  · simp [h]
  · have : (x.2 == u) = false := by simpa using h
    rw [this, if_neg h]
theorem lastTok_drop {l : List Ch} {k : Nat} {u : List UInt8} {t : Int} (h : lastTok (l.drop k) u = some t) : lastTok l u = some t := by
  have e : l.reverse = (l.drop k).reverse ++ (l.take k).reverse := by rw [← List.reverse_append, List.take_append_drop]
  unfold lastTok at h ⊢
  rw [e, List.find?_append]
  obtain ⟨x, hx, hxt⟩ := Option.map_eq_some_iff.1 h
  rw [hx]
  simpa using hxt
/-- Who is there has the version of its last write. -/
def Cs.Ver (s : Cs) : Prop := ∀ u t, lastTok s.log u = some t → hasM s.ml u = true → verM s.ml u = t
theorem mls_get {s : Cs} (hr : Rising s.ml) (o : OpV) (t : Int) (u : List UInt8) : getM (s.mls o t) u = if u = o.uid then (if o.del = true then none else some ⟨t, o.card⟩) else getM s.ml u := by
  unfold Cs.mls
  cases o.del with
  | true => rw [if_pos rfl, (delM_spec o.uid hr).2.1 u]; simp
  | false => rw [if_neg (by simp), (putM_spec o.uid ⟨t, o.card⟩ hr).2.1 u]; simp
theorem Cs.step_ver {s : Cs} (h : s.Ver) (hok : s.Ok) (o : OpV) (t : Int) : (s.step o t).2.Ver := by
  unfold Cs.step
  cases hn : s.no o t with
  | true => exact h
  | false =>
    intro u t' hl hh
    have hl : lastTok (pushL s.cap s.log (t, o.uid)) u = some t' := hl
    have hg := mls_get hok.rise o t u
    have hh : hasM (s.mls o t) u = true := hh
    show verM (s.mls o t) u = t'
    unfold pushL at hl
    rw [lastTok_snoc] at hl
    by_cases he : o.uid = u
    · rw [if_pos he] at hl
      have hle : t = t' := Option.some.inj hl
      subst he
      rw [if_pos rfl] at hg
      unfold hasM at hh
      rw [hg] at hh
      cases hd : o.del with
      | true => rw [hd] at hh; simp at hh
      | false =>
        rw [hd, if_neg (by simp)] at hg
        unfold verM
        rw [hg]
        exact hle
    · rw [if_neg he] at hl
      rw [if_neg (fun e => he e.symm)] at hg
      have hl2 : lastTok s.log u = some t' := by
        split at hl
        · exact lastTok_drop hl
        · exact hl
      have e1 : hasM (s.mls o t) u = hasM s.ml u := by unfold hasM; rw [hg]
      have e2 : verM (s.mls o t) u = verM s.ml u := by unfold verM; rw [hg]
      rw [e2]
      exact h u t' hl2 (by rw [← e1]; exact hh)
structure Cs.Good (s : Cs) : Prop where
  ok : s.Ok
  ver : s.Ver
theorem made_good (birth cards log : Int) (l : List ActV) : (madeF (Cs.new birth cards log) l).Good :=
  madeF_ind (P := Cs.Good) (fun s o t h => ⟨Cs.step_ok h.ok o t, Cs.step_ver h.ver h.ok o t⟩) l _ ⟨Cs.new_ok _ _ _, fun u t h => by simp [Cs.new, lastTok] at h⟩

/-- What is told of a card. -/
structure Told (s : Cs) (tok : Int) (x : It) : Prop where
  gone : hasM s.ml x.uid = !x.gone
  there : hasM s.ml x.uid = true → verM s.ml x.uid = x.ver ∧ txtM s.ml x.uid = x.card
  none : hasM s.ml x.uid = false → x.card = []
  new : tok ≠ 0 → tok < x.ver
theorem get_mem {ml : ML Ce} (hr : Rising ml) {e : List UInt8 × Ce} (h : e ∈ ml) : getM ml e.1 = some e.2 := by
  induction ml with
  | nil => cases h
  | cons x l ih =>
    rcases List.mem_cons.1 h with rfl | h
    · exact getM_cons_eq rfl
    · have hlt := (List.pairwise_cons.1 hr).1 e h
      rw [getM_cons_ne (cmp_ne hlt)]
      exact ih (List.pairwise_cons.1 hr).2 h
theorem told_live {s : Cs} (hr : Rising s.ml) : ∀ x ∈ liveL s.ml, Told s 0 x := by
  intro x hx
  obtain ⟨e, he, rfl⟩ := List.mem_map.1 hx
  have hg := get_mem hr he
  have h1 : hasM s.ml e.1 = true := by unfold hasM; rw [hg]; rfl
  refine ⟨by rw [show (itOf e).uid = e.1 from rfl, h1]; rfl, fun _ => ⟨?_, ?_⟩, fun h => ?_, fun h => absurd rfl h⟩
  · show verM s.ml e.1 = e.2.ver
    unfold verM; rw [hg]
  · show txtM s.ml e.1 = e.2.text
    unfold txtM; rw [hg]
  · rw [show (itOf e).uid = e.1 from rfl, h1] at h; cases h
theorem outR_mem (ml : ML Ce) (tok : Int) : ∀ l : List Ch, Falls l → ∀ y ∈ outR ml tok l, ∃ x ∈ l, y = itAt ml x ∧ tok < x.1 ∧ l.find? (fun z => z.2 == x.2) = some x := by
  refine ind_snoc (fun _ y hy => by simp [outR] at hy) fun l x ih hf y hy => ?_
  have hf' := List.pairwise_append.1 hf
  rw [outR_snoc] at hy
  unfold stepR at hy
  by_cases c : x.1 ≤ tok ∨ seenR (outR ml tok l) x.2 = true
  · rw [if_pos c] at hy
    obtain ⟨z, hz, e, h1, h2⟩ := ih hf'.1 y hy
    exact ⟨z, by simp [hz], e, h1, by rw [List.find?_append, h2]; rfl⟩
  · rw [if_neg c] at hy
    rcases List.mem_append.1 hy with hy | hy
    · obtain ⟨z, hz, e, h1, h2⟩ := ih hf'.1 y hy
      exact ⟨z, by simp [hz], e, h1, by rw [List.find?_append, h2]; rfl⟩
    · rw [List.mem_singleton] at hy
      have hx : tok < x.1 := by
        have : ¬ x.1 ≤ tok := fun h => c (.inl h)
        omega
      refine ⟨x, by simp, hy, hx, ?_⟩
      have hs := seen_outR ml tok l (fun z hz => by have := hf'.2.2 z hz x (by simp); omega) x.2
      have hn : ¬ 0 < chSeen l x.2 := fun h => c (.inr (by rw [hs]; simpa using h))
      have hno : l.find? (fun z => z.2 == x.2) = none := by
        rw [List.find?_eq_none]
        intro z hz hzz
        exact hn (List.countP_pos_iff.2 ⟨z, hz, hzz⟩)
      rw [List.find?_append, hno]
      simp
theorem told_out {s : Cs} (hv : s.Ver) (ht : s.Tok) (tok : Int) : ∀ y ∈ outR s.ml tok s.log.reverse, Told s tok y := by
  intro y hy
  obtain ⟨x, hx, rfl, h1, h2⟩ := outR_mem s.ml tok _ ht.falls y hy
  have hl : lastTok s.log x.2 = some x.1 := by unfold lastTok; rw [h2]; rfl
  have hu := itAt_uid s.ml x
  unfold itAt at hu ⊢
  by_cases hh : hasM s.ml x.2 = true
  · rw [if_pos hh]
    exact ⟨by simpa using hh, fun _ => ⟨rfl, rfl⟩, fun h => (by rw [show (⟨x.2, verM s.ml x.2, false, txtM s.ml x.2⟩ : It).uid = x.2 from rfl, hh] at h; cases h), fun _ => (by show tok < verM s.ml x.2; rw [hv x.2 x.1 hl hh]; exact h1)⟩
  · have hf : hasM s.ml x.2 = false := by simpa using hh
    rw [if_neg hh]
    exact ⟨by simpa using hf, fun h => (by rw [show (⟨x.2, x.1, true, []⟩ : It).uid = x.2 from rfl, hf] at h; cases h), fun _ => rfl, fun _ => h1⟩
/-- They rise strictly. -/
theorem outR_apart (ml : ML Ce) (tok : Int) : ∀ l : List Ch, (outR ml tok l).Pairwise (fun x y => x.uid ≠ y.uid) := by
  refine ind_snoc (by simp [outR]) fun l x ih => ?_
  rw [outR_snoc]
  unfold stepR
  by_cases c : x.1 ≤ tok ∨ seenR (outR ml tok l) x.2 = true
  · rw [if_pos c]; exact ih
  · rw [if_neg c]
    refine List.pairwise_append.2 ⟨ih, by simp, fun y hy z hz => ?_⟩
    rw [List.mem_singleton] at hz
    subst hz
    rw [itAt_uid]
    intro he
    exact c (.inr (by unfold seenR; rw [List.any_eq_true]; exact ⟨y, hy, by simpa using he⟩))
theorem live_apart {ml : ML Ce} (hr : Rising ml) : (liveL ml).Pairwise (fun x y => x.uid ≠ y.uid) := by
  unfold liveL
  rw [List.pairwise_map]
  exact hr.imp fun h => by exact cmp_ne h
def Next (x y : It) : Prop := x.ver < y.ver ∨ (x.ver = y.ver ∧ compareBytes x.uid y.uid < 0)
theorem sorted_next {l l' : List It} (h : SortedOf l l') (ha : l.Pairwise (fun x y => x.uid ≠ y.uid)) : l'.Pairwise Next := by
  have ha' := (h.1.pairwise_iff (R := fun x y : It => x.uid ≠ y.uid) (fun h e => h e.symm)).2 ha
  refine (h.2.and ha').imp fun {x y} ⟨h1, h2⟩ => ?_
  have k : ¬ itLt y x = true := by simp [h1]
  rw [itLt_eq] at k
  by_cases c : x.ver < y.ver
  · exact .inl c
  · have c2 : ¬ y.ver < x.ver := fun h => k (.inl h)
    have c3 : x.ver = y.ver := by omega
    refine .inr ⟨c3, ?_⟩
    exact cmp_not (fun h => k (.inr ⟨c3.symm, h⟩)) (fun e => h2 e.symm)
structure Knows (s : Cs) (tok : Int) (l' : List It) (err : Int) : Prop where
  is : err = if tok = 0 ∨ s.bad tok = false then 0 else 8
  none : err ≠ 0 → l' = []
  told : ∀ x ∈ l', Told s tok x
  next : l'.Pairwise Next
  all : tok = 0 → l'.length = s.ml.length
theorem knows {s : Cs} (hg : s.Good) (ht : s.Tok) {tok : Int} {l' : List It} {err : Int} (h : SinceIs s tok l' err) : Knows s tok l' err := by
  rcases h with ⟨a, b, c⟩ | ⟨a, b, c, d⟩ | ⟨a, b, c, d⟩
  · subst a
    exact ⟨by rw [b]; simp, fun h => absurd b h, fun x hx => told_live hg.ok.rise x (c.1.mem_iff.1 hx), sorted_next c (live_apart hg.ok.rise), fun _ => by rw [c.1.length_eq, liveL_len]⟩
  · subst d
    exact ⟨by rw [c, if_neg (by simp [a, b])], fun _ => rfl, fun x hx => (by cases hx), List.Pairwise.nil, fun h => absurd h a⟩
  · rw [outP_eq _ _ _ ht.falls] at d
    exact ⟨by rw [c]; simp [b], fun h => absurd c h, fun x hx => told_out hg.ver ht tok x (d.1.mem_iff.1 hx), sorted_next d (outR_apart _ _ _), fun h => absurd h a⟩

end Go.Proofs.Ytbeckfnhgeclnaa
