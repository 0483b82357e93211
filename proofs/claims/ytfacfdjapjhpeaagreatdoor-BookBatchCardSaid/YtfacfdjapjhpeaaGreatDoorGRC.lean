/-
  Numbers and texts in bytes, plain.
-/
import Derived.Test.YtfacfdjapjhpeaaGreatDoorGAA
import Derived.Test.YtfacfdjapjhpeaaGreatDoorGAI
import Derived.Test.YtfacfdjapjhpeaaGreatDoorGAJ
import Derived.Test.YtfacfdjapjhpeaaGreatDoorGAD
import Derived.Test.YtfacfdjapjhpeaaGreatDoorGAX
import Derived.Test.YtfacfdjapjhpeaaGreatDoorGAW
import Derived.Test.YtfacfdjapjhpeaaGreatDoorGAN
import Derived.Test.YtfacfdjapjhpeaaGreatDoorGAM
import Derived.Test.YtfacfdjapjhpeaaGreatDoorGAF
set_option linter.unusedVariables false
set_option linter.unusedSimpArgs false
namespace Go.Proofs.YtfacfdjapjhpeaaGreatDoor
open Go.RowKit

/-- How many bytes a number has. -/
def nb (n : Nat) : Nat := if h : n = 0 then 0 else nb (n / 256) + 1
termination_by n
decreasing_by omega
end Go.Proofs.YtfacfdjapjhpeaaGreatDoor
namespace Go.Proofs.YtfacfdjapjhpeaaGreatDoor
open Go.RowKit

def OpOk (o : OpV) : Prop := o.uid.length ≤ maxLen ∧ o.card.length ≤ maxLen
end Go.Proofs.YtfacfdjapjhpeaaGreatDoor
namespace Go.Proofs.YtfacfdjapjhpeaaGreatDoor
open Go.RowKit Go.Lib

/-- What a round of the law knows. -/
theorem chkG_next {s : Cs} {room : Int} {l : List OpV} {k : Nat} {m g gr : Int} {i : Int} (hk : k < l.length) (h : chkG s room (l.take k) (l.drop k) m g = (i, gr, 0)) :
    ∃ p, chkO s room (l.take k) l[k] m g = .inr p ∧ chkG s room (l.take (k + 1)) (l.drop (k + 1)) p.1 p.2 = (i, gr, 0) := by
  cases hc : chkO s room (l.take k) l[k] m g with
  | inl e =>
    exfalso
    rw [chkG_err hk hc] at h
    have he : e = 0 := by injection h with _ h; injection h
    exact chkO_err hc he
  | inr p => exact ⟨p, rfl, by rw [← chkG_ok hk hc]; exact h⟩
end Go.Proofs.YtfacfdjapjhpeaaGreatDoor
namespace Go.Proofs.YtfacfdjapjhpeaaGreatDoor
open Go.ChangeShapes Go.WideShapes Go.ChangeAt Go.RowKit

section
variable {H : Type} {enc : TypeId × Value → H} {W : World} {base : Nat} {spare : Nat → Bool} {held : Bool}
theorem rds_of_opsC {t : TypeId} {A : Option Addr} {n c : Nat} {d : DataW H} {p : List MemPlace} (ht : Tryz.prog.underlying t = some (.slice 60)) (h : DataW.Trod enc Tryz.prog W base spare held t (.slice A n c) d p) :
    ∃ l : List OpV, Rds W A n 5 (opsE l) ∧ n = l.length ∧ n ≤ maxLen ∧ (n ≤ c ∧ ∀ r ∈ l, OpI r) := by
  obtain ⟨l, h1, h2, h3, h4⟩ := rds_of_opsI ht h
  refine ⟨l, h1, h2, h3, ?_, h4⟩
  obtain ⟨m, f6⟩ := h
  rcases DataW.trod_slice ht f6 with ⟨h, _⟩ | ⟨a, n', c', _, _, _, _, h, _, _, hnc, _⟩
  · simp [Value.cells] at h
    omega
  · simp [Value.cells] at h
    omega
end

end Go.Proofs.YtfacfdjapjhpeaaGreatDoor
namespace Go.Proofs.YtfacfdjapjhpeaaGreatDoor
open Go.RowKit Go.Lib

/-- What texts there are behind some writes. -/
def wantM (s : Cs) (pre : List OpV) (u : List UInt8) : Option (List UInt8) := pre.foldl (fun a o => if u = o.uid then (if o.del = true then none else some o.card) else a) ((getM s.ml u).map (·.text))
theorem wantM_snoc (s : Cs) (pre : List OpV) (o : OpV) (u : List UInt8) : wantM s (pre ++ [o]) u = if u = o.uid then (if o.del = true then none else some o.card) else wantM s pre u := by
  unfold wantM
  rw [List.foldl_append]
  rfl
theorem app_want {s : Cs} (hr : Rising s.ml) (o : OpV) (t : Int) (u : List UInt8) : (getM (s.mls o t) u).map (·.text) = if u = o.uid then (if o.del = true then none else some o.card) else (getM s.ml u).map (·.text) := by
  rw [mls_get hr]
  by_cases h : u = o.uid
  · rw [if_pos h, if_pos h]
    split <;> rfl
  · rw [if_neg h, if_neg h]
theorem step_app {s : Cs} {o : OpV} {t : Int} (h : (s.step o t).1 = true) : (s.step o t).2.ml = s.mls o t := by
  unfold Cs.step at h ⊢
  by_cases hn : s.no o t = true
  · rw [if_pos hn] at h; cases h
  · rw [if_neg hn]; rfl
theorem uidIn_false {l : List OpV} {u : List UInt8} (h : uidIn l u = false) : ∀ o ∈ l, o.uid ≠ u := by
  unfold uidIn at h
  intro o ho
  have := List.any_eq_false.1 h o ho
  simpa using this

/-- The batch behind k writes. -/
structure BatK (s : Cs) (room T : Int) (ops : List OpV) (k : Nat) (m g : Int) : Prop where
  far : Far s (applyAll s (ops.take k) T) (ops.take k) room m g T
  want : ∀ u, (getM (applyAll s (ops.take k) T).ml u).map (·.text) = wantM s (ops.take k) u
  at_ : ∀ i (h : i < ops.length), i < k → getM (applyAll s (ops.take k) T).ml ops[i].uid = if ops[i].del = true then none else some ⟨T, ops[i].card⟩
theorem BatK.start {s : Cs} (h : s.Ok) (room : Int) {T : Int} (hT : s.latest ≤ T) (ops : List OpV) : BatK s room T ops 0 (s.ml.length : Nat) 0 :=
  ⟨far_start h room hT, fun u => rfl, fun i h hi => absurd hi (Nat.not_lt_zero i)⟩
theorem BatK.step {s : Cs} {room T : Int} {ops : List OpV} {k : Nat} {m g : Int} (h : BatK s room T ops k m g) (hk : k < ops.length) {p : Int × Int} (hc : chkO s room (ops.take k) ops[k] m g = .inr p) : BatK s room T ops (k + 1) p.1 p.2 := by
  obtain ⟨h1, h2⟩ := far_step h.far hc
  have hu := (chkO_ok hc).1
  have ht : ops.take (k + 1) = ops.take k ++ [ops[k]] := List.take_succ_eq_append_getElem hk
  have ha := applyAll_take s ops T k hk
  have hml := step_app h1
  rw [← ha] at hml h2
  have hr := h.far.ok.rise
  refine ⟨by rw [ht]; rw [ht] at h2; exact h2, fun u => ?_, fun i hi hik => ?_⟩
  · rw [hml, app_want hr, ht, wantM_snoc, h.want]
  · rw [hml, mls_get hr]
    by_cases hik2 : i < k
    · have hne : ops[i].uid ≠ ops[k].uid := uidIn_false hu _ (by rw [List.mem_take_iff_getElem]; exact ⟨i, by omega, rfl⟩)
      rw [if_neg hne]
      exact h.at_ i hi hik2
    · have hik3 : i = k := by omega
      subst hik3
      rw [if_pos rfl]
theorem BatK.all {s : Cs} {room T : Int} {ops : List OpV} {i gr : Int} : ∀ (d k : Nat) (m g : Int), d + k = ops.length → BatK s room T ops k m g → chkG s room (ops.take k) (ops.drop k) m g = (i, gr, 0) → ∃ m', BatK s room T ops ops.length m' gr
  | 0, k, m, g, hd, h, hc => by
    have hk : k = ops.length := by omega
    subst hk
    rw [List.drop_length] at hc
    rw [chkG_done hc]
    exact ⟨m, h⟩
  | d + 1, k, m, g, hd, h, hc => by
    have hk : k < ops.length := by omega
    obtain ⟨p, hp, hc2⟩ := chkG_next hk hc
    exact BatK.all d (k + 1) p.1 p.2 (by omega) (h.step hk hp) hc2

/-- One write alone. -/
def oneQ (cn : List UInt8) (o : OpV) : Rq := ⟨if o.del = true then 5 else 4, [], cn, o.uid, o.card, o.ck, o.cv, [], 0, 0, 0⟩
def batQ (cn : List UInt8) (ops : List OpV) : Rq := ⟨7, [], cn, [], [], 0, 0, ops, 0, 0, 0⟩
theorem bat_one {cn : List UInt8} {ops : List OpV} (h : chk (batQ cn ops) = 0) : nameB cn = true ∧ 1 ≤ ops.length ∧ ops.length ≤ 8 ∧ ∀ o ∈ ops, chk (oneQ cn o) = 0 ∧ opsQ (oneQ cn o) = [o] := by
  obtain ⟨_, h2, h3, h4, h5⟩ := chk_0 h
  unfold strayB batQ at h2
  unfold namedB batQ at h3
  unfold formedB batQ at h4
  unfold outB batQ at h5
  simp only [hT, hC, hU, hCd, hCn, hO, hTk, hM, hTi] at h2 h3 h4 h5
  simp only [Bool.or_eq_false_iff, Bool.and_eq_true, Bool.or_eq_true, List.all_eq_true, List.any_eq_false] at h2 h3 h4 h5
  have hnm : nameB cn = true := by simpa using h3.1.1.2
  have hlen : ¬ ops.length < 1 ∧ ¬ 8 < ops.length := by simpa using h5.1.1.1.1
  refine ⟨hnm, by omega, by omega, fun o ho => ?_⟩
  have hu : uidB o.uid = true := h3.2 o ho
  have hf := h4.2 o ho
  have hs := h2.2 o ho
  have hcard : o.del = true → o.card = [] := fun hd => by simpa [hd] using hs
  obtain ⟨del, uid, card, ck, cv⟩ := o
  cases del with
  | true =>
    have hcd : card = [] := hcard rfl
    subst hcd
    refine ⟨chk_of rfl (by unfold strayB oneQ; simp [hT, hC, hU, hCd, hCn, hO, hTk, hM, hTi]) ?_ ?_ (by unfold outB oneQ; simp [hO, hM]), rfl⟩
    · unfold namedB oneQ; simp only [hT, hC, hU]; simp only at hu; rw [hnm, hu]; simp
    · have hf2 : mayP ck cv = true := hf.2
      unfold formedB oneQ; simp only [hCd, hCn]; rw [hf2]; simp
  | false =>
    refine ⟨chk_of rfl (by unfold strayB oneQ; simp [hT, hC, hU, hCd, hCn, hO, hTk, hM, hTi]) ?_ ?_ (by unfold outB oneQ; simp [hO, hM]), rfl⟩
    · unfold namedB oneQ; simp only [hT, hC, hU]; simp only at hu; rw [hnm, hu]; simp
    · have hf2 : mayP ck cv = true := hf.2
      have hf1 : isB card = true := by simpa using hf.1
      unfold formedB oneQ; simp only [hCd, hCn]; rw [hf2, hf1]; simp
/-- A check of one write, where the others are done. -/
theorem chk_one {s s0 : Cs} {room : Int} {pre : List OpV} {o : OpV} {m g : Int} (hm : s.most = s0.most) (hg : uidIn pre o.uid = false → getM s.ml o.uid = getM s0.ml o.uid) :
    (∀ p, chkO s0 room pre o m g = .inr p → chkO s (room - g) [] o m 0 = .inr (p.1, p.2 - g)) ∧ (∀ e, chkO s0 room pre o m g = .inl e → e ≠ 11 → chkO s (room - g) [] o m 0 = .inl e) := by
  by_cases c1 : uidIn pre o.uid = true
  · unfold chkO
    rw [if_pos c1]
    exact ⟨(fun p h => by cases h), (fun e h hn => by injection h with h; exact absurd h.symm hn)⟩
  · have c1' : uidIn pre o.uid = false := by simpa using c1
    have hgg := hg c1'
    have e1 : hasM s.ml o.uid = hasM s0.ml o.uid := by unfold hasM; rw [hgg]
    have e2 : verM s.ml o.uid = verM s0.ml o.uid := by unfold verM; rw [hgg]
    have e3 : txtM s.ml o.uid = txtM s0.ml o.uid := by unfold txtM; rw [hgg]
    unfold chkO
    rw [if_neg c1, if_neg (show ¬ uidIn [] o.uid = true by simp [uidIn]), e1, e2, e3, hm]
    by_cases c2 : holdsP o.ck o.cv (hasM s0.ml o.uid) (verM s0.ml o.uid) = false
    · rw [if_pos c2, if_pos c2]
      exact ⟨(fun p h => by cases h), (fun e h _ => h)⟩
    · rw [if_neg c2, if_neg c2]
      by_cases c3 : o.del = true ∧ hasM s0.ml o.uid = false
      · rw [if_pos c3, if_pos c3]
        exact ⟨(fun p h => by cases h), (fun e h _ => h)⟩
      · rw [if_neg c3, if_neg c3]
        simp only
        obtain ⟨M, hM⟩ : ∃ M, (if hasM s0.ml o.uid = true then m - 1 else m) + (if o.del = true then 0 else 1) = M := ⟨_, rfl⟩
        obtain ⟨G, hG⟩ : ∃ G, (if hasM s0.ml o.uid = true then g - ((txtM s0.ml o.uid).length : Int) else g) + (if o.del = true then 0 else (o.card.length : Int)) = G := ⟨_, rfl⟩
        have hG0 : (if hasM s0.ml o.uid = true then 0 - ((txtM s0.ml o.uid).length : Int) else 0) + (if o.del = true then 0 else (o.card.length : Int)) = G - g := by rw [← hG]; split <;> omega
        rw [hM, hG, hG0]
        by_cases c4 : s0.most < M ∨ room < G
        · rw [if_pos c4, if_pos (by omega)]
          exact ⟨(fun p h => by cases h), (fun e h _ => h)⟩
        · rw [if_neg c4, if_neg (by omega)]
          exact ⟨(fun p h => by injection h with h; rw [← h]), (fun e h _ => by cases h)⟩

/-- The writes one by one. -/
structure OneR (Q : Qt) (T0 : Int) (n : Nat) (st0 : BkS) (nm cn : List UInt8) (s0 : Cs) (pre : List OpV) (m g : Int) (st : BkS) (s : Cs) : Prop where
  ok : BkNm Q T0 n st
  col : colB st nm cn = some s
  get : ∀ u, uidIn pre u = false → getM s.ml u = getM s0.ml u
  len : (s.ml.length : Int) = m
  bytes : bytesT (tenB st.ts nm) = bytesT (tenB st0.ts nm) + g
  want : ∀ u, (getM s.ml u).map (·.text) = wantM s0 pre u
theorem OneR.step {Q : Qt} {T0 : Int} {n : Nat} {st0 : BkS} {nm cn : List UInt8} {s0 : Cs} {pre : List OpV} {m g : Int} {st : BkS} {s : Cs} (h : OneR Q T0 n st0 nm cn s0 pre m g st s) (hm0 : s0.most = Q.cards) (h0 : T0 ≤ 1099511627776) (hn : n ≤ 100000) {o : OpV} (hq : errB nm (oneQ cn o) = 0) (hop : opsQ (oneQ cn o) = [o]) :
    (∀ e, chkO s0 (Q.bytes - bytesT (tenB st0.ts nm)) pre o m g = .inl e → e ≠ 11 → (doB Q st nm (oneQ cn o)).1.err = e) ∧
    (∀ p, chkO s0 (Q.bytes - bytesT (tenB st0.ts nm)) pre o m g = .inr p → (doB Q st nm (oneQ cn o)).1.err = 0 ∧ ∃ s', OneR Q T0 (n + 1) st0 nm cn s0 (pre ++ [o]) p.1 p.2 (doB Q st nm (oneQ cn o)).2.2 s') := by
  have hx : CsOk Q st.ctr s := (h.ok.ok.ten nm).get h.col
  have hout := h.ok.out h0 (by omega)
  have hdo : doB Q st nm (oneQ cn o) = putB st nm (writeB Q st.ctr (tenB st.ts nm) (oneQ cn o) s) := by
    unfold doB
    rw [hq, if_neg (fun h => h rfl)]
    unfold coreB
    have hk : (oneQ cn o).k = 5 ∨ (oneQ cn o).k = 4 := by unfold oneQ; simp only; split <;> omega
    have hcol := h.col
    unfold colB at hcol
    rw [if_neg (by omega), if_neg (by omega), show (oneQ cn o).col = cn from rfl, hcol]
    simp only
    unfold withinB
    rw [if_neg (by omega), if_neg (by omega), if_neg (by omega), if_neg (by omega)]
  have hcq : chkQ Q (tenB st.ts nm) (oneQ cn o) s = match chkO s (Q.bytes - bytesT (tenB st0.ts nm) - g) [] o m 0 with | .inl e => (0, 0, e) | .inr p => (0, p.2, 0) := by
    unfold chkQ
    rw [hop, h.len, h.bytes, show Q.bytes - (bytesT (tenB st0.ts nm) + g) = Q.bytes - bytesT (tenB st0.ts nm) - g by omega, chkG]
    cases chkO s (Q.bytes - bytesT (tenB st0.ts nm) - g) [] o m 0 with
    | inl e => rfl
    | inr p => rfl
  obtain ⟨k1, k2⟩ := chk_one (s := s) (s0 := s0) (room := Q.bytes - bytesT (tenB st0.ts nm)) (pre := pre) (o := o) (m := m) (g := g) (hx.most.trans hm0.symm) (h.get o.uid)
  refine ⟨fun e he hne => ?_, fun p hp => ?_⟩
  · rw [k2 e he hne] at hcq
    simp only at hcq
    rw [hdo]
    unfold putB writeB
    rw [hcq, if_pos (chkO_err he)]
  · have k1 := k1 p hp
    rw [k1] at hcq
    simp only at hcq
    have hlat := hx.lat
    have hf := far_start hx.ok (Q.bytes - bytesT (tenB st0.ts nm) - g) (T := st.ctr + 1) (by omega)
    rw [h.len] at hf
    obtain ⟨f1, f2⟩ := far_step hf k1
    have hml := step_app f1
    have hw : writeB Q st.ctr (tenB st.ts nm) (oneQ cn o) s = (⟨(oneQ cn o).k, 0, st.ctr + 1, if (oneQ cn o).k = 4 then st.ctr + 1 else 0, [], 0, false⟩, [], st.ctr + 1, putM (tenB st.ts nm) cn (s.step o (st.ctr + 1)).2) := by
      unfold writeB
      rw [hcq, if_neg (fun h => h rfl), if_neg hout, hop]
      rfl
    have hb := h.ok.step nm (oneQ cn o)
    rw [hdo, hw] at hb ⊢
    refine ⟨rfl, (s.step o (st.ctr + 1)).2, hb, ?_, fun u hu => ?_, f2.len, ?_, fun u => ?_⟩
    · show getM (tenB (putM st.ts nm (putM (tenB st.ts nm) cn _)) nm) cn = _
      rw [ten_put h.ok.ok.rise, if_pos rfl, (putM_spec cn _ (h.ok.ok.ten nm).rise).2.1, if_pos rfl]
    · rw [uidIn_snoc, Bool.or_eq_false_iff] at hu
      have hne : o.uid ≠ u := by simpa using hu.2
      rw [f2.get u (by simp [uidIn, hne])]
      exact h.get u hu.1
    · show bytesT (tenB (putM st.ts nm (putM (tenB st.ts nm) cn _)) nm) = _
      have hcol : getM (tenB st.ts nm) cn = some s := h.col
      have hby := f2.bytes
      have hb0 := h.bytes
      simp only at hby
      rw [ten_put h.ok.ok.rise, if_pos rfl, bytesT_put cn _ (h.ok.ok.ten nm).rise, hcol]
      simp only
      omega
    · rw [hml, app_want hx.ok.rise, wantM_snoc, h.want]

/-- What is the same of two lists of cards. -/
theorem live_like {m1 m2 : ML Ce} (h1 : Rising m1) (h2 : Rising m2) (h : ∀ u, (getM m1 u).map (·.text) = (getM m2 u).map (·.text)) : m1.map (fun e => (e.1, e.2.text)) = m2.map (fun e => (e.1, e.2.text)) := by
  have hm : ∀ (l : ML Ce) (u : List UInt8), getM (l.map (fun e => (e.1, e.2.text))) u = (getM l u).map (·.text) := by
    intro l u
    induction l with
    | nil => rfl
    | cons e l ih =>
      rw [List.map_cons]
      by_cases he : e.1 = u
      · rw [getM_cons_eq (x := (e.1, e.2.text)) he, getM_cons_eq he]; rfl
      · rw [getM_cons_ne (x := (e.1, e.2.text)) he, getM_cons_ne he, ih]
  have hr : ∀ {l : ML Ce}, Rising l → Rising (l.map (fun e => (e.1, e.2.text))) := fun hl => List.pairwise_map.2 hl
  exact rising_ext (hr h1) (hr h2) (fun u => by rw [hm, hm, h])
end Go.Proofs.YtfacfdjapjhpeaaGreatDoor
namespace Go.Proofs.YtfacfdjapjhpeaaGreatDoor
open Go.RowKit Go.Lib

theorem chkG_idx {s : Cs} {room : Int} : ∀ (r pre : List OpV) (m g : Int) {i gr er : Int}, chkG s room pre r m g = (i, gr, er) → (er = 0 → i = 0) ∧ (er ≠ 0 → (pre.length : Int) ≤ i ∧ i < ((pre.length + r.length : Nat) : Int))
  | [], pre, m, g, i, gr, er, h => by
    rw [chkG] at h
    injection h with h1 h
    injection h with h2 h3
    exact ⟨fun _ => h1.symm, fun hn => absurd h3.symm hn⟩
  | o :: r, pre, m, g, i, gr, er, h => by
    rw [chkG] at h
    cases hc : chkO s room pre o m g with
    | inl e =>
      rw [hc] at h
      injection h with h1 h
      injection h with h2 h3
      have := chkO_err hc
      refine ⟨fun h0 => absurd (h3.trans h0) this, fun _ => ?_⟩
      rw [List.length_cons]
      omega
    | inr p =>
      rw [hc] at h
      obtain ⟨h1, h2⟩ := chkG_idx r (pre ++ [o]) _ _ h
      refine ⟨h1, fun hn => ?_⟩
      have := h2 hn
      rw [List.length_append, List.length_cons, List.length_nil] at this
      rw [List.length_cons]
      omega
/-- How far the writes have come, one by one. -/
structure BatInv (Q : Qt) (T0 : Int) (n0 : Nat) (ST : BkS) (tt nn : List UInt8) (ops : List OpV) (err idx : Int) (i : Nat) (st : BkS) : Prop where
  ok : BkNm Q T0 (n0 + i) st
  way : (colB ST tt nn = none ∧ err = 4 ∧ idx = 0 ∧ i = 0 ∧ st = ST) ∨
    (∃ s0 s m g gr, colB ST tt nn = some s0 ∧ s0.most = Q.cards ∧ OneR Q T0 (n0 + i) ST tt nn s0 (ops.take i) m g st s ∧ chkG s0 (Q.bytes - bytesT (tenB ST.ts tt)) (ops.take i) (ops.drop i) m g = (idx, gr, err) ∧ chkG s0 (Q.bytes - bytesT (tenB ST.ts tt)) [] ops (s0.ml.length : Nat) 0 = (idx, gr, err))
/-- The batch, where it is done. -/
structure BatDone (Q : Qt) (ST : BkS) (tt nn : List UInt8) (ops : List OpV) (T : Int) (stb : BkS) (s0 sb : Cs) (gr : Int) : Prop where
  col0 : colB ST tt nn = some s0
  col : colB stb tt nn = some sb
  bytes : bytesT (tenB stb.ts tt) = bytesT (tenB ST.ts tt) + gr
  want : ∀ u, (getM sb.ml u).map (·.text) = wantM s0 ops u
  at_ : ∀ i (h : i < ops.length), getM sb.ml ops[i].uid = if ops[i].del = true then none else some ⟨T, ops[i].card⟩
  rise : Rising sb.ml
  chk : (chkG s0 (Q.bytes - bytesT (tenB ST.ts tt)) [] ops (s0.ml.length : Nat) 0) = (0, gr, 0)
structure BatS (Q : Qt) (T0 : Int) (n0 : Nat) (ST : BkS) (tt nn : List UInt8) (ops : List OpV) (an : An) : Prop where
  one : ∀ o ∈ ops, errB tt (oneQ nn o) = 0 ∧ opsQ (oneQ nn o) = [o] ∧ uidB o.uid = true
  nm : nameB tt = true ∧ nameB nn = true
  idx : 0 ≤ an.1.index ∧ an.1.index < (ops.length : Int) ∧ (an.1.err = 0 → an.1.index = 0)
  start : BatInv Q T0 n0 ST tt nn ops an.1.err an.1.index 0 ST
  done : an.1.err = 0 → ∃ s0 sb gr, BatDone Q ST tt nn ops an.1.token an.2.2 s0 sb gr
theorem bat_s {Q : Qt} {T0 : Int} {n0 : Nat} {ST : BkS} (hb : BkNm Q T0 n0 ST) (h0 : T0 ≤ 1099511627776) (hn : n0 ≤ 100000) {tt nn : List UInt8} {ops : List OpV} (he : (doB Q ST tt (batQ nn ops)).1.err = 0 ∨ (doB Q ST tt (batQ nn ops)).1.err = 6 ∨ (doB Q ST tt (batQ nn ops)).1.err = 4 ∨ (doB Q ST tt (batQ nn ops)).1.err = 7) :
    BatS Q T0 n0 ST tt nn ops (doB Q ST tt (batQ nn ops)) := by
  have herr : errB tt (batQ nn ops) = 0 := by
    by_cases h : errB tt (batQ nn ops) = 0
    · exact h
    · exfalso
      have h2 := err_or tt (batQ nn ops)
      have : (doB Q ST tt (batQ nn ops)).1.err = errB tt (batQ nn ops) := by unfold doB; rw [if_pos h]; rfl
      omega
  obtain ⟨hnt, hck, _, _⟩ := err_0 herr
  obtain ⟨hnn, hl1, hl8, hone⟩ := bat_one hck
  have huid : ∀ o ∈ ops, uidB o.uid = true := by
    obtain ⟨_, _, h3, _, _⟩ := chk_0 hck
    unfold namedB batQ at h3
    simp only [Bool.and_eq_true, List.all_eq_true] at h3
    exact h3.2
  have hOne : ∀ o ∈ ops, errB tt (oneQ nn o) = 0 ∧ opsQ (oneQ nn o) = [o] ∧ uidB o.uid = true := fun o ho => by
    refine ⟨?_, (hone o ho).2, huid o ho⟩
    have hk : ¬ ((oneQ nn o).k = 1 ∨ (oneQ nn o).k = 11) := by unfold oneQ; simp only; split <;> omega
    unfold errB
    rw [hnt, (hone o ho).1, if_neg hk]
    simp
  have hdo : doB Q ST tt (batQ nn ops) = putB ST tt (coreB Q ST.ctr (tenB ST.ts tt) (batQ nn ops)) := by unfold doB; rw [herr, if_neg (fun h => h rfl)]
  cases hc : colB ST tt nn with
  | none =>
    have hg : getM (tenB ST.ts tt) (batQ nn ops).col = none := hc
    have hd : doB Q ST tt (batQ nn ops) = putB ST tt (rsE 7 4, [], ST.ctr, tenB ST.ts tt) := by
      rw [hdo]
      unfold coreB
      rw [if_neg (show ¬ (batQ nn ops).k = 2 from (by decide : ¬ (7 : Int) = 2)), if_neg (show ¬ (batQ nn ops).k = 10 from (by decide : ¬ (7 : Int) = 10)), hg]
      rfl
    rw [hd]
    refine ⟨hOne, ⟨hnt, hnn⟩, ⟨Int.le_refl _, ?_, fun _ => rfl⟩, ⟨hb, .inl ⟨hc, rfl, rfl, rfl, rfl⟩⟩, fun h => absurd h (by decide : ¬ (4 : Int) = 0)⟩
    show (0 : Int) < _
    omega
  | some s0 =>
    have hg : getM (tenB ST.ts tt) (batQ nn ops).col = some s0 := hc
    have hx : CsOk Q ST.ctr s0 := (hb.ok.ten tt).get hc
    have hlat := hx.lat
    have hout := hb.out h0 (by omega)
    have hdw : doB Q ST tt (batQ nn ops) = putB ST tt (writeB Q ST.ctr (tenB ST.ts tt) (batQ nn ops) s0) := by
      rw [hdo]
      unfold coreB
      rw [if_neg (show ¬ (batQ nn ops).k = 2 from (by decide : ¬ (7 : Int) = 2)), if_neg (show ¬ (batQ nn ops).k = 10 from (by decide : ¬ (7 : Int) = 10)), hg]
      simp only
      unfold withinB
      rw [if_neg (show ¬ (batQ nn ops).k = 3 from (by decide : ¬ (7 : Int) = 3)), if_neg (show ¬ (batQ nn ops).k = 6 from (by decide : ¬ (7 : Int) = 6)), if_neg (show ¬ (batQ nn ops).k = 8 from (by decide : ¬ (7 : Int) = 8)), if_neg (show ¬ (batQ nn ops).k = 9 from (by decide : ¬ (7 : Int) = 9))]
    have hops : opsQ (batQ nn ops) = ops := by
      unfold opsQ
      rw [if_neg (show ¬ (batQ nn ops).k = 4 from (by decide : ¬ (7 : Int) = 4)), if_neg (show ¬ (batQ nn ops).k = 5 from (by decide : ¬ (7 : Int) = 5))]
      rfl
    obtain ⟨⟨ix, gr, er⟩, hG⟩ : ∃ x, chkG s0 (Q.bytes - bytesT (tenB ST.ts tt)) [] ops (s0.ml.length : Nat) 0 = x := ⟨_, rfl⟩
    have hcq : chkQ Q (tenB ST.ts tt) (batQ nn ops) s0 = (ix, gr, er) := by unfold chkQ; rw [hops, hG]
    obtain ⟨k1, k2⟩ := chkG_idx _ _ _ _ hG
    have hstart : BatInv Q T0 n0 ST tt nn ops er ix 0 ST := ⟨hb, .inr ⟨s0, s0, (s0.ml.length : Nat), 0, gr, hc, hx.most, ⟨hb, hc, fun _ _ => rfl, rfl, by omega, fun _ => rfl⟩, hG, hG⟩⟩
    have hw : writeB Q ST.ctr (tenB ST.ts tt) (batQ nn ops) s0 = if er ≠ 0 then (⟨7, er, 0, 0, [], ix, false⟩, [], ST.ctr, tenB ST.ts tt) else (⟨7, 0, ST.ctr + 1, 0, [], 0, false⟩, [], ST.ctr + 1, putM (tenB ST.ts tt) nn (applyAll s0 ops (ST.ctr + 1))) := by
      unfold writeB
      rw [hcq, hops, if_neg hout]
      rfl
    rw [hdw, hw]
    by_cases hz : er = 0
    · subst hz
      rw [if_neg (fun h => h rfl)]
      have hi0 := k1 rfl
      subst hi0
      refine ⟨hOne, ⟨hnt, hnn⟩, ⟨Int.le_refl _, ?_, fun _ => rfl⟩, hstart, fun _ => ?_⟩
      · show (0 : Int) < _
        omega
      · obtain ⟨m', hK⟩ := BatK.all (T := ST.ctr + 1) ops.length 0 _ _ (by omega) (BatK.start hx.ok _ (by omega) ops) (by rw [List.take_zero, List.drop_zero]; exact hG)
        have hf := hK.far
        have hwant := hK.want
        have hat := hK.at_
        rw [List.take_length] at hf hwant hat
        refine ⟨s0, applyAll s0 ops (ST.ctr + 1), gr, hc, ?_, ?_, hwant, fun i h => hat i h h, hf.ok.rise, hG⟩
        · show getM (tenB (putM ST.ts tt (putM (tenB ST.ts tt) nn _)) tt) nn = _
          rw [ten_put hb.ok.rise, if_pos rfl, (putM_spec nn _ (hb.ok.ten tt).rise).2.1, if_pos rfl]
        · show bytesT (tenB (putM ST.ts tt (putM (tenB ST.ts tt) nn _)) tt) = _
          have hg2 : getM (tenB ST.ts tt) nn = some s0 := hc
          rw [ten_put hb.ok.rise, if_pos rfl, bytesT_put nn _ (hb.ok.ten tt).rise, hg2, hf.bytes]
          simp only
          omega
    · rw [if_pos hz]
      have := k2 hz
      refine ⟨hOne, ⟨hnt, hnn⟩, ⟨?_, ?_, fun h => absurd h hz⟩, hstart, fun h => absurd h hz⟩
      · show 0 ≤ ix
        simp at this
        omega
      · show ix < _
        simp at this
        omega
theorem bat_step {Q : Qt} {T0 : Int} {n0 : Nat} {ST : BkS} {tt nn : List UInt8} {ops : List OpV} {err idx : Int} {i : Nat} {st : BkS} (h : BatInv Q T0 n0 ST tt nn ops err idx i st) (h0 : T0 ≤ 1099511627776) (hn : n0 + i ≤ 100000) (hi : i < ops.length) (he : err = 0 ∨ err = 6 ∨ err = 4 ∨ err = 7)
    (hone : ∀ o ∈ ops, errB tt (oneQ nn o) = 0 ∧ opsQ (oneQ nn o) = [o] ∧ uidB o.uid = true) :
    ((err ≠ 0 ∧ idx = i) → (doB Q st tt (oneQ nn ops[i])).1.err = err) ∧ (¬ (err ≠ 0 ∧ idx = i) → (doB Q st tt (oneQ nn ops[i])).1.err = 0 ∧ BatInv Q T0 n0 ST tt nn ops err idx (i + 1) (doB Q st tt (oneQ nn ops[i])).2.2) := by
  obtain ⟨ho1, ho2, _⟩ := hone _ (List.getElem_mem hi)
  rcases h.way with ⟨w1, w2, w3, w4, w5⟩ | ⟨s0, s, m, g, gr, w1, w2, w3, w4, w6⟩
  · subst w4 w5 w2 w3
    refine ⟨fun _ => ?_, fun hh => absurd ⟨by decide, rfl⟩ hh⟩
    unfold doB
    rw [ho1, if_neg (fun h => h rfl)]
    have hk : (oneQ nn ops[0]).k = 5 ∨ (oneQ nn ops[0]).k = 4 := by unfold oneQ; simp only; split <;> omega
    unfold coreB
    have hg : getM (tenB st.ts tt) (oneQ nn ops[0]).col = none := w1
    rw [if_neg (by omega), if_neg (by omega), hg]
    rfl
  · obtain ⟨p1, p2⟩ := w3.step w2 h0 hn ho1 ho2
    cases hc : chkO s0 (Q.bytes - bytesT (tenB ST.ts tt)) (ops.take i) ops[i] m g with
    | inl e =>
      rw [chkG_err hi hc] at w4
      injection w4 with q1 q2
      injection q2 with q2 q3
      have hne := chkO_err hc
      have h11 : e ≠ 11 := by omega
      refine ⟨fun _ => (p1 e hc h11).trans q3, fun hh => absurd ⟨by omega, q1.symm⟩ hh⟩
    | inr p =>
      rw [chkG_ok hi hc] at w4
      obtain ⟨k1, k2⟩ := chkG_idx _ _ _ _ w4
      obtain ⟨r1, s', r2⟩ := p2 p hc
      have ht : ops.take (i + 1) = ops.take i ++ [ops[i]] := List.take_succ_eq_append_getElem hi
      rw [← ht] at r2
      refine ⟨fun hh => ?_, fun _ => ⟨r1, h.ok.step _ _, .inr ⟨s0, s', p.1, p.2, gr, w1, w2, r2, w4, w6⟩⟩⟩
      have := k2 hh.1
      rw [List.length_take] at this
      omega
/-- Both lists of cards. -/
theorem bat_end {Q : Qt} {T0 : Int} {n0 : Nat} {ST : BkS} {tt nn : List UInt8} {ops : List OpV} {idx T : Int} {st stb : BkS} {s0 sb : Cs} {gr : Int} (h : BatInv Q T0 n0 ST tt nn ops 0 idx ops.length st) (hd : BatDone Q ST tt nn ops T stb s0 sb gr) :
    bytesT (tenB st.ts tt) = bytesT (tenB stb.ts tt) ∧ (lisB stb tt nn).map (fun x => (x.uid, x.card)) = (lisB st tt nn).map (fun x => (x.uid, x.card)) := by
  rcases h.way with ⟨_, w2, _⟩ | ⟨s0', s, m, g, gr', w1, w2, w3, w4, w6⟩
  · exact absurd w2 (by decide)
  · have e0 : s0' = s0 := by rw [hd.col0] at w1; injection w1 with w1; exact w1.symm
    subst e0
    have hb := w3.bytes
    rw [List.drop_length] at w4
    have hg := chkG_done w4
    have hwant := w3.want
    rw [List.take_length] at hwant
    have hr : Rising s.ml := ((w3.ok.ok.ten tt).get w3.col).ok.rise
    have hgr : gr' = gr := by
      have := w6.symm.trans hd.chk
      injection this with _ this
      injection this
    have hbb := hd.bytes
    refine ⟨by omega, ?_⟩
    have h1 := live_like hd.rise hr (fun u => (hd.want u).trans (hwant u).symm)
    have e1 : lisB stb tt nn = liveL sb.ml := by unfold lisB; rw [hd.col]
    have e2 : lisB st tt nn = liveL s.ml := by unfold lisB; rw [w3.col]
    rw [e1, e2]
    unfold liveL
    rw [List.map_map, List.map_map]
    exact h1
theorem bat_over {Q : Qt} {T0 : Int} {n0 : Nat} {ST : BkS} {tt nn : List UInt8} {ops : List OpV} {err idx : Int} {st : BkS} (h : BatInv Q T0 n0 ST tt nn ops err idx ops.length st) (hl : 1 ≤ ops.length) : err = 0 := by
  rcases h.way with ⟨_, _, _, w, _⟩ | ⟨s0', s, m, g, gr', w1, w2, w3, w4, w6⟩
  · omega
  · rw [List.drop_length, chkG] at w4
    injection w4 with _ w4
    injection w4 with _ w4
    exact w4.symm
/-- What is asked of a card behind a batch. -/
def qGe (cn u : List UInt8) : Rq := ⟨6, [], cn, u, [], 0, 0, [], 0, 0, 0⟩
theorem qGe_s {cn u : List UInt8} (h : cn.length ≤ 60) (h2 : u.length ≤ 60) : RqS (qGe cn u) := ⟨Nat.zero_le _, by show cn.length ≤ _; omega, by show u.length ≤ _; omega, Nat.zero_le _, Nat.zero_le _, (fun o ho => by cases ho)⟩
theorem err_ge {nm cn u : List UInt8} (hn : nameB nm = true) (hc : nameB cn = true) (hu : uidB u = true) : errB nm (qGe cn u) = 0 := by
  have h0 : isK (qGe cn u).k = true := rfl
  have h1 : strayB (qGe cn u) = false := by unfold strayB qGe; simp [hT, hC, hU, hCd, hCn, hO, hTk, hM, hTi]
  have h2 : namedB (qGe cn u) = true := by unfold namedB qGe; simp [hT, hC, hU, hc, hu]
  have h3 : formedB (qGe cn u) = true := by unfold formedB qGe; simp [hCd, hCn]
  have h4 : outB (qGe cn u) = false := by unfold outB qGe; simp [hO, hM]
  have hk : ¬ ((qGe cn u).k = 1 ∨ (qGe cn u).k = 11) := by show ¬ ((6 : Int) = 1 ∨ (6 : Int) = 11); omega
  unfold errB
  rw [hn, chk_of h0 h1 h2 h3 h4, if_neg hk]
  simp
theorem do_ge (Q : Qt) {st : BkS} {nm cn u : List UInt8} {s : Cs} (he : errB nm (qGe cn u) = 0) (hc : colB st nm cn = some s) :
    (doB Q st nm (qGe cn u)).1 = (if hasM s.ml u = true then ⟨6, 0, 0, verM s.ml u, txtM s.ml u, 0, false⟩ else rsE 6 4) ∧ (doB Q st nm (qGe cn u)).2.1 = [] := by
  have hg : getM (tenB st.ts nm) (qGe cn u).col = some s := hc
  unfold doB
  rw [he, if_neg (fun h => h rfl)]
  unfold coreB
  rw [if_neg (show ¬ (qGe cn u).k = 2 from (by decide : ¬ (6 : Int) = 2)), if_neg (show ¬ (qGe cn u).k = 10 from (by decide : ¬ (6 : Int) = 10)), hg]
  simp only
  unfold withinB
  rw [if_neg (show ¬ (qGe cn u).k = 3 from (by decide : ¬ (6 : Int) = 3)), if_pos (show (qGe cn u).k = 6 from rfl)]
  by_cases h : hasM s.ml u = true
  · rw [if_pos (show hasM s.ml (qGe cn u).uid = true from h), if_pos h]
    exact ⟨rfl, rfl⟩
  · rw [if_neg (show ¬ hasM s.ml (qGe cn u).uid = true from h), if_neg h]
    exact ⟨rfl, rfl⟩
/-- The k-th write's card, asked behind the batch. -/
theorem bat_get {Q : Qt} {T0 : Int} {n0 : Nat} {ST : BkS} {tt nn : List UInt8} {ops : List OpV} {an : An} (hS : BatS Q T0 n0 ST tt nn ops an) {T : Int} {stb st : BkS} {s0 sb : Cs} {gr : Int} (hd : BatDone Q ST tt nn ops T stb s0 sb gr) (hsm : Same stb st) (i : Nat) (hi : i < ops.length) :
    (doB Q st tt (qGe nn ops[i].uid)).1 = (if ops[i].del = true then rsE 6 4 else ⟨6, 0, 0, T, ops[i].card, 0, false⟩) ∧ (doB Q st tt (qGe nn ops[i].uid)).2.1 = [] := by
  have hu := (hS.one _ (List.getElem_mem hi)).2.2
  obtain ⟨h1, h2⟩ := do_ge Q (err_ge hS.nm.1 hS.nm.2 hu) ((hsm.col tt nn).trans hd.col)
  refine ⟨?_, h2⟩
  rw [h1]
  have ha := hd.at_ i hi
  by_cases hdl : ops[i].del = true
  · rw [if_pos hdl] at ha ⊢
    rw [if_neg (by unfold hasM; rw [ha]; decide)]
  · rw [if_neg hdl] at ha ⊢
    rw [if_pos (by unfold hasM; rw [ha]; rfl)]
    unfold verM txtM
    rw [ha]
theorem ge_same (Q : Qt) {st : BkS} (hr : Rising st.ts) (nm cn u : List UInt8) : Same st (doB Q st nm (qGe cn u)).2.2 :=
  (do_toks Q st nm (qGe cn u)).same hr (fun h => by have := h.1; revert this; show ¬ writesK 6 = true; decide)

end Go.Proofs.YtfacfdjapjhpeaaGreatDoor
namespace Go.Proofs.YtfacfdjapjhpeaaGreatDoor
open Go.RowKit Go.Lib

set_option maxHeartbeats 1000000 in
theorem few_calls (w : World) (A : Option Addr) (n c : Nat) (l : List OpV) (hr0 : Rds w A n 5 (opsE l)) (hn : n = l.length) (hm : n ≤ maxLen) (hok : ∀ x ∈ l, OpOk x) :
    Calls Tryz.prog 24 #[.slice A n c] w fun e w' => e = .returned (.bool (fewP l)) ∧ Below w.heap.size w w' := by
  obtain ⟨LB, hLB⟩ : ∃ LB, fewP l = LB := ⟨_, rfl⟩
  rw [hLB]
  simp only [fewP] at hLB
  rw [← hn] at hLB
  have HL := hd hLB
  have HN := hd hn.symm
  have HE := hd hok
  unfold maxLen at hm
  clear hLB hn hok
  by_cases c2 : 20 < n
  · have f2 : decide ((20 : Int) < (n : Int)) = true := by simp; omega
    have HR : Hd (LB = false) := hd (by rw [← HL.o]; simp [c2])
    clear c2
    go_enter Tryz.func24, Tryz.ntmps24
    go_wp2
    go_ret
    exact ⟨ret_bool HR.o.symm, Below.refl _ w⟩
  · have f2 : decide ((20 : Int) < (n : Int)) = false := by simp; omega
    have HR : Hd (LB = l.all fun x => !(decide (60 < x.uid.length) || decide (1000 < x.card.length))) := hd (by rw [← HL.o]; simp [c2])
    go_enter Tryz.func24, Tryz.ntmps24
    go_wp2_with fail
    go_loop [3] (fun i => ∃ k : Nat, i = .int .i64 k ∧ k ≤ n ∧ Hd (∀ j (h : j < l.length), j < k → (!(decide (60 < l[j].uid.length) || decide (1000 < l[j].card.length))) = true)) (fun i => n - (RowKit.intOf i).toNat)
    case atStart => exact ⟨0, rfl, Nat.zero_le _, hd (fun j _ h => absurd h (Nat.not_lt_zero _))⟩
    case round =>
      obtain ⟨k, rfl, hk, hall⟩ := hrel
      have hki : (0 : Int) ≤ (k : Int) := by omega
      by_cases hlt : k < n
      · have hlti : (k : Int) < (n : Int) := by omega
        have hkl : k < l.length := by rw [HN.o]; exact hlt
        obtain ⟨g, o, rfl, hg, hc⟩ := hr0.at_ (by omega)
        obtain ⟨x, hx⟩ : ∃ x, l[k]'hkl = x := ⟨_, rfl⟩
        have HX := hd hx
        have hes := HE.o x (by rw [← hx]; exact List.getElem_mem hkl)
        have hcell : ∀ j u, j < 5 → (opEnc x)[j]? = some u → w.cell? ⟨g, o + (k * 5 + j), none⟩ = some u := fun j u hj hv => hc _ _ ((opsE_at l k hkl j hj).trans (by rw [hx]; exact hv))
        obtain ⟨del, uid, text, ck, cv⟩ := x
        have k0 := hcell 1 _ (by omega) rfl
        have k3 := hcell 2 _ (by omega) rfl
        rw [← Nat.add_assoc] at k0 k3
        obtain ⟨uz, huz⟩ : ∃ uz, uid.length = uz := ⟨_, rfl⟩
        obtain ⟨tz, htz⟩ : ∃ tz, text.length = tz := ⟨_, rfl⟩
        simp only [OpOk, huz, htz] at hes
        unfold maxLen at hes
        have hsu : (bs uid).size = uz := by rw [bs_sz, huz]
        have hst : (bs text).size = tz := by rw [bs_sz, htz]
        have HBAD : Hd ((60 < uz ∨ 1000 < tz) → LB = false) := hd (fun hh => by
          rw [HR.o, Bool.eq_false_iff]
          intro ha
          have := List.all_eq_true.1 ha _ (List.getElem_mem hkl)
          rw [HX.o] at this
          simp only [huz, htz] at this
          rcases hh with h | h <;> simp [h] at this)
        have HG : Hd (¬ 60 < uz → ¬ 1000 < tz → ∀ j (h : j < l.length), j < k + 1 → (!(decide (60 < l[j].uid.length) || decide (1000 < l[j].card.length))) = true) := hd (fun h1 h2 j hj hjk => by
          by_cases hjj : j < k
          · exact hall.o j hj hjj
          · obtain rfl : j = k := by omega
            rw [HX.o]
            simp only [huz, htz]
            simp [h1, h2])
        clear hcell hc hx hr0 huz htz
        by_cases v1 : 60 < uz
        · have g1 : decide ((60 : Int) < (uz : Int)) = true := by simp; omega
          have HH := hd (HBAD.o (.inl v1))
          clear v1
          go_wp2
          go_ret
          exact ⟨ret_bool HH.o.symm, Below.refl _ _⟩
        · have g1 : decide ((60 : Int) < (uz : Int)) = false := by simp; omega
          by_cases v2 : 1000 < tz
          · have g2 : decide ((1000 : Int) < (tz : Int)) = true := by simp; omega
            have HH := hd (HBAD.o (.inr v2))
            clear v1 v2
            go_wp2
            go_ret
            exact ⟨ret_bool HH.o.symm, Below.refl _ _⟩
          · have g2 : decide ((1000 : Int) < (tz : Int)) = false := by simp; omega
            have HH := hd (HG.o v1 v2)
            clear v1 v2
            go_wp2
            go_round
            case rel => exact ⟨k + 1, by go_num, by omega, HH⟩
            case measure => simp [RowKit.intOf]; omega
      · obtain rfl : k = n := by omega
        have HH : Hd (LB = true) := hd (by
          rw [HR.o, List.all_eq_true]
          intro x hx
          obtain ⟨j, hj, rfl⟩ := List.getElem_of_mem hx
          exact hall.o j hj (by rw [← HN.o]; exact hj))
        go_wp2
        go_ret
        exact ⟨ret_bool HH.o.symm, Below.refl _ _⟩

end Go.Proofs.YtfacfdjapjhpeaaGreatDoor
