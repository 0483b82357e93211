/-
  Requests, plain: may one be; its bytes; what bytes ask.
-/
import Derived.Test.YtogjokofmfpmgaaGreatDoorGAG
import Derived.Test.YtogjokofmfpmgaaGreatDoorGAA
import Derived.Test.YtogjokofmfpmgaaGreatDoorProg
import Derived.Laws.ResultCell
import Derived.Test.YtogjokofmfpmgaaGreatDoorGAF
import Derived.Deep.RegionHeld3
set_option linter.unusedVariables false
set_option linter.unusedSimpArgs false
namespace Go.Proofs.YtogjokofmfpmgaaGreatDoor
open Go.RowKit

/-- A request. -/
structure Rq where
  k : Int
  tn : List UInt8
  col : List UInt8
  uid : List UInt8
  card : List UInt8
  ck : Int
  cv : Int
  ops : List OpV
  tok : Int
  most : Int
  ticks : Int
  deriving DecidableEq
def rq0 : Rq := ⟨0, [], [], [], [], 0, 0, [], 0, 0, 0⟩
/-- Which fields a kind has. -/
def hT (k : Int) : Bool := decide (k = 1)
def hC (k : Int) : Bool := decide (2 ≤ k) && decide (k ≤ 9)
def hU (k : Int) : Bool := decide (4 ≤ k) && decide (k ≤ 6)
def hCd (k : Int) : Bool := decide (k = 4)
def hCn (k : Int) : Bool := decide (4 ≤ k) && decide (k ≤ 5)
def hO (k : Int) : Bool := decide (k = 7)
def hTk (k : Int) : Bool := decide (8 ≤ k) && decide (k ≤ 9)
def hM (k : Int) : Bool := decide (k = 8)
def hTi (k : Int) : Bool := decide (k = 9)
def isK (k : Int) : Bool := decide (1 ≤ k) && decide (k ≤ 11)
def writesK (k : Int) : Bool := decide (2 ≤ k) && decide (k ≤ 5) || decide (k = 7)

/-- Names. -/
def lowC (c : Nat) : Prop := 97 ≤ c ∧ c ≤ 122
def nameC (c : Nat) : Prop := lowC c ∨ (48 ≤ c ∧ c ≤ 57) ∨ c = 45
def uidC (c : Nat) : Prop := lowC c ∨ (65 ≤ c ∧ c ≤ 90) ∨ (48 ≤ c ∧ c ≤ 57) ∨ c = 45 ∨ c = 46 ∨ c = 95 ∨ c = 64
instance (c : Nat) : Decidable (lowC c) := by unfold lowC; infer_instance
instance (c : Nat) : Decidable (nameC c) := by unfold nameC; infer_instance
instance (c : Nat) : Decidable (uidC c) := by unfold uidC; infer_instance
def NameP (s : List UInt8) : Prop := 1 ≤ s.length ∧ s.length ≤ 16 ∧ lowC (s.headD 0).toNat ∧ (s.getLastD 0).toNat ≠ 45 ∧ ∀ c ∈ s, nameC c.toNat
def UidP (s : List UInt8) : Prop := 1 ≤ s.length ∧ s.length ≤ 24 ∧ ∀ c ∈ s, uidC c.toNat
instance (s : List UInt8) : Decidable (NameP s) := by unfold NameP; infer_instance
instance (s : List UInt8) : Decidable (UidP s) := by unfold UidP; infer_instance
def nameB (s : List UInt8) : Bool := decide (NameP s)
def uidB (s : List UInt8) : Bool := decide (UidP s)

/-- Why a request may not be. -/
def strayB (q : Rq) : Bool :=
  (!hT q.k && decide (q.tn ≠ [])) || (!hC q.k && decide (q.col ≠ [])) || (!hU q.k && decide (q.uid ≠ [])) || (!hCd q.k && decide (q.card ≠ [])) ||
  (!hCn q.k && (decide (q.ck ≠ 0) || decide (q.cv ≠ 0))) || (!hO q.k && decide (q.ops ≠ [])) || (!hTk q.k && decide (q.tok ≠ 0)) || (!hM q.k && decide (q.most ≠ 0)) || (!hTi q.k && decide (q.ticks ≠ 0)) ||
  q.ops.any (fun o => o.del && decide (o.card ≠ []))
def namedB (q : Rq) : Bool := (!hT q.k || nameB q.tn) && (!hC q.k || nameB q.col) && (!hU q.k || uidB q.uid) && q.ops.all (fun o => uidB o.uid)
noncomputable def isB (s : List UInt8) : Bool := decide (crdE s = 0)
noncomputable def formedB (q : Rq) : Bool := (!hCd q.k || isB q.card) && (!hCn q.k || mayP q.ck q.cv) && q.ops.all (fun o => (o.del || isB o.card) && mayP o.ck o.cv)
def outB (q : Rq) : Bool := (hO q.k && (decide (q.ops.length < 1) || decide (8 < q.ops.length))) || decide (q.tok < 0) || (hM q.k && (decide (q.most < 1) || decide (1000 < q.most))) || decide (q.ticks < 0) || decide (1048576 < q.ticks)
noncomputable def chk (q : Rq) : Int :=
  if isK q.k = false then 12 else if strayB q = true then 1 else if namedB q = false then 3 else if formedB q = false then 1 else if outB q = true then 12 else 0
theorem chk_0 {q : Rq} (h : chk q = 0) : isK q.k = true ∧ strayB q = false ∧ namedB q = true ∧ formedB q = true ∧ outB q = false := by
  unfold chk at h
  cases h1 : isK q.k <;> cases h2 : strayB q <;> cases h3 : namedB q <;> cases h4 : formedB q <;> cases h5 : outB q <;> simp [h1, h2, h3, h4, h5] at h ⊢

/-- Bytes. -/
def condB (ck cv : Int) : List UInt8 := numB ck ++ numB cv
def opB (o : OpV) : List UInt8 := if o.del then numB 1 ++ (textB o.uid ++ condB o.ck o.cv) else numB 0 ++ (textB o.uid ++ (textB o.card ++ condB o.ck o.cv))
def opsB (l : List OpV) : List UInt8 := l.flatMap opB
theorem opsB_snoc (l : List OpV) (o : OpV) : opsB (l ++ [o]) = opsB l ++ opB o := by simp [opsB]
theorem opsB_take (l : List OpV) (k : Nat) (h : k < l.length) : opsB (l.take (k + 1)) = opsB (l.take k) ++ opB l[k] := by
  rw [List.take_succ_eq_append_getElem h, opsB_snoc]
def eT (b : Bool) (s : List UInt8) : List UInt8 := if b then textB s else []
def eN (b : Bool) (n : Int) : List UInt8 := if b then numB n else []
def eC (b : Bool) (ck cv : Int) : List UInt8 := if b then condB ck cv else []
def eO (b : Bool) (l : List OpV) : List UInt8 := if b then numB l.length ++ opsB l else []
def encB (q : Rq) : List UInt8 :=
  eT (hT q.k) q.tn ++ (eT (hC q.k) q.col ++ (eT (hU q.k) q.uid ++ (eT (hCd q.k) q.card ++ (eC (hCn q.k) q.ck q.cv ++ (eO (hO q.k) q.ops ++ (eN (hTk q.k) q.tok ++ (eN (hM q.k) q.most ++ eN (hTi q.k) q.ticks)))))))
/-- What bytes ask. -/
def smallAt (l : List UInt8) : Option (Int × List UInt8) := (numAt l).bind fun p => if p.1 ≤ 2147483647 then some p else none
def condAt (l : List UInt8) : Option ((Int × Int) × List UInt8) := (smallAt l).bind fun p => (numAt p.2).bind fun r => some ((p.1, r.1), r.2)
def opAt (l : List UInt8) : Option (OpV × List UInt8) :=
  (numAt l).bind fun m => if 1 < m.1 then none else (textAt 20000 m.2).bind fun u =>
    if m.1 = 1 then (condAt u.2).bind fun c => some (⟨true, u.1, [], c.1.1, c.1.2⟩, c.2)
    else (textAt 20000 u.2).bind fun t => (condAt t.2).bind fun c => some (⟨false, u.1, t.1, c.1.1, c.1.2⟩, c.2)
def opsN : Nat → List UInt8 → Option (List OpV × List UInt8)
  | 0, l => some ([], l)
  | n + 1, l => (opsN n l).bind fun p => (opAt p.2).bind fun o => some (p.1 ++ [o.1], o.2)
def opsAt (l : List UInt8) : Option (List OpV × List UInt8) := (smallAt l).bind fun p => if 16 < p.1 then none else opsN p.1.toNat p.2
def oT (b : Bool) (l : List UInt8) : Option (List UInt8 × List UInt8) := if b then textAt 20000 l else some ([], l)
def oN (b : Bool) (l : List UInt8) : Option (Int × List UInt8) := if b then numAt l else some (0, l)
def oS (b : Bool) (l : List UInt8) : Option (Int × List UInt8) := if b then smallAt l else some (0, l)
def oC (b : Bool) (l : List UInt8) : Option ((Int × Int) × List UInt8) := if b then condAt l else some ((0, 0), l)
def oO (b : Bool) (l : List UInt8) : Option (List OpV × List UInt8) := if b then opsAt l else some ([], l)
def rawAt (k : Int) (l : List UInt8) : Option (Rq × List UInt8) :=
  (oT (hT k) l).bind fun t => (oT (hC k) t.2).bind fun c => (oT (hU k) c.2).bind fun u => (oT (hCd k) u.2).bind fun d => (oC (hCn k) d.2).bind fun n =>
  (oO (hO k) n.2).bind fun o => (oN (hTk k) o.2).bind fun x => (oS (hM k) x.2).bind fun m => (oS (hTi k) m.2).bind fun i =>
  some (⟨k, t.1, c.1, u.1, d.1, n.1.1, n.1.2, o.1, x.1, m.1, i.1⟩, i.2)
open Classical in
noncomputable def decQ (k : Int) (l : List UInt8) : Rq × Int :=
  if isK k = false then (rq0, 12) else
  match rawAt k l with
  | some (q, []) => if chk q = 0 then (q, 0) else (rq0, chk q)
  | _ => (rq0, 1)

/-- What can stand in bytes. -/
def RawOp (o : OpV) : Prop := o.uid.length ≤ 20000 ∧ o.card.length ≤ 20000 ∧ (o.del = true → o.card = []) ∧ 0 ≤ o.ck ∧ o.ck ≤ 2147483647 ∧ 0 ≤ o.cv ∧ o.cv < 2 ^ 63
structure RawOk (q : Rq) : Prop where
  tn : q.tn.length ≤ 20000 ∧ (hT q.k = false → q.tn = [])
  col : q.col.length ≤ 20000 ∧ (hC q.k = false → q.col = [])
  uid : q.uid.length ≤ 20000 ∧ (hU q.k = false → q.uid = [])
  card : q.card.length ≤ 20000 ∧ (hCd q.k = false → q.card = [])
  cond : 0 ≤ q.ck ∧ q.ck ≤ 2147483647 ∧ 0 ≤ q.cv ∧ q.cv < 2 ^ 63 ∧ (hCn q.k = false → q.ck = 0 ∧ q.cv = 0)
  ops : q.ops.length ≤ 16 ∧ (∀ o ∈ q.ops, RawOp o) ∧ (hO q.k = false → q.ops = [])
  tok : 0 ≤ q.tok ∧ q.tok < 2 ^ 63 ∧ (hTk q.k = false → q.tok = 0)
  most : 0 ≤ q.most ∧ q.most ≤ 2147483647 ∧ (hM q.k = false → q.most = 0)
  ticks : 0 ≤ q.ticks ∧ q.ticks ≤ 2147483647 ∧ (hTi q.k = false → q.ticks = 0)

theorem smallAt_num {n : Int} (h : 0 ≤ n) (h2 : n ≤ 2147483647) (r : List UInt8) : smallAt (numB n ++ r) = some (n, r) := by
  unfold smallAt
  rw [numAt_num h (by omega)]
  simp only [Option.bind_some]
  rw [if_pos h2]
theorem smallAt_some {l r : List UInt8} {n : Int} (h : smallAt l = some (n, r)) : l = numB n ++ r ∧ 0 ≤ n ∧ n ≤ 2147483647 := by
  unfold smallAt at h
  obtain ⟨p, hp, h⟩ := Option.bind_eq_some_iff.1 h
  split at h
  · next h2 =>
    injection h with h
    subst h
    obtain ⟨h3, h4, _⟩ := numAt_some hp
    exact ⟨h3, h4, h2⟩
  · cases h
theorem condAt_cond {ck cv : Int} (h : 0 ≤ ck ∧ ck ≤ 2147483647 ∧ 0 ≤ cv ∧ cv < 2 ^ 63) (r : List UInt8) : condAt (condB ck cv ++ r) = some ((ck, cv), r) := by
  unfold condAt condB
  rw [List.append_assoc, smallAt_num h.1 h.2.1]
  simp only [Option.bind_some]
  rw [numAt_num h.2.2.1 h.2.2.2]
  rfl
theorem condAt_some {l r : List UInt8} {c : Int × Int} (h : condAt l = some (c, r)) : l = condB c.1 c.2 ++ r ∧ 0 ≤ c.1 ∧ c.1 ≤ 2147483647 ∧ 0 ≤ c.2 ∧ c.2 < 2 ^ 63 := by
  unfold condAt at h
  obtain ⟨p, hp, h⟩ := Option.bind_eq_some_iff.1 h
  obtain ⟨v, hv, h⟩ := Option.bind_eq_some_iff.1 h
  injection h with h
  injection h with h1 h2
  subst h1 h2
  obtain ⟨a1, a2, a3⟩ := smallAt_some hp
  obtain ⟨b1, b2, b3⟩ := numAt_some hv
  exact ⟨by unfold condB; rw [List.append_assoc, ← b1, ← a1], a2, a3, b2, b3⟩
theorem opAt_op {o : OpV} (h : RawOp o) (r : List UInt8) : opAt (opB o ++ r) = some (o, r) := by
  obtain ⟨h1, h2, h3, h4⟩ := h
  obtain ⟨del, uid, card, ck, cv⟩ := o
  simp only at h1 h2 h3 h4
  unfold opAt opB
  cases del with
  | true =>
    simp only [if_true]
    rw [List.append_assoc, numAt_num (by decide) (by decide)]
    simp only [Option.bind_some]
    rw [if_neg (by decide), List.append_assoc, textAt_text h1 (by omega)]
    simp only [Option.bind_some, if_true]
    rw [condAt_cond h4]
    simp only [Option.bind_some]
    rw [h3 rfl]
  | false =>
    simp only [Bool.false_eq_true, if_false]
    rw [List.append_assoc, numAt_num (by decide) (by decide)]
    simp only [Option.bind_some]
    rw [if_neg (by decide), List.append_assoc, textAt_text h1 (by omega)]
    simp only [Option.bind_some]
    rw [if_neg (by decide), List.append_assoc, textAt_text h2 (by omega)]
    simp only [Option.bind_some]
    rw [condAt_cond h4]
    rfl
theorem opAt_some {l r : List UInt8} {o : OpV} (h : opAt l = some (o, r)) : l = opB o ++ r ∧ RawOp o := by
  unfold opAt at h
  obtain ⟨m, hm, h⟩ := Option.bind_eq_some_iff.1 h
  obtain ⟨a1, a2, a3⟩ := numAt_some hm
  split at h
  · cases h
  · next hm1 =>
    obtain ⟨u, hu, h⟩ := Option.bind_eq_some_iff.1 h
    obtain ⟨b1, b2⟩ := textAt_some hu
    split at h
    · next h1 =>
      obtain ⟨c, hc, h⟩ := Option.bind_eq_some_iff.1 h
      injection h with h
      injection h with e1 e2
      subst e1 e2
      obtain ⟨c1, c2⟩ := condAt_some hc
      refine ⟨?_, b2, by simp, fun _ => rfl, c2⟩
      unfold opB
      simp only [if_true]
      rw [List.append_assoc, List.append_assoc, ← c1, ← b1, ← h1, ← a1]
    · next h1 =>
      obtain ⟨t, ht, h⟩ := Option.bind_eq_some_iff.1 h
      obtain ⟨d1, d2⟩ := textAt_some ht
      obtain ⟨c, hc, h⟩ := Option.bind_eq_some_iff.1 h
      injection h with h
      injection h with e1 e2
      subst e1 e2
      obtain ⟨c1, c2⟩ := condAt_some hc
      refine ⟨?_, b2, d2, fun h => (by cases h), c2⟩
      unfold opB
      simp only [Bool.false_eq_true, if_false]
      rw [List.append_assoc, List.append_assoc, List.append_assoc, ← c1, ← d1, ← b1, show (0 : Int) = m.1 by omega, ← a1]
theorem opsN_ops (L : List OpV) (hL : ∀ o ∈ L, RawOp o) (r : List UInt8) : ∀ n, n ≤ L.length → opsN n (opsB L ++ r) = some (L.take n, opsB (L.drop n) ++ r)
  | 0, _ => by simp [opsN]
  | n + 1, h => by
    have hn : n < L.length := h
    rw [opsN, opsN_ops L hL r n (by omega)]
    simp only [Option.bind_some]
    have e : L.drop n = L[n] :: L.drop (n + 1) := List.drop_eq_getElem_cons hn
    rw [e]
    show (opAt (opsB (L[n] :: L.drop (n + 1)) ++ r)).bind _ = _
    have e2 : opsB (L[n] :: L.drop (n + 1)) = opB L[n] ++ opsB (L.drop (n + 1)) := by unfold opsB; rw [List.flatMap_cons]
    rw [e2, List.append_assoc, opAt_op (hL _ (List.getElem_mem _))]
    simp only [Option.bind_some]
    rw [List.take_succ_eq_append_getElem hn]
theorem opsN_some : ∀ {n : Nat} {l r : List UInt8} {L : List OpV}, opsN n l = some (L, r) → l = opsB L ++ r ∧ L.length = n ∧ ∀ o ∈ L, RawOp o
  | 0, l, r, L, h => by
    rw [opsN] at h
    injection h with h
    injection h with h1 h2
    subst h1 h2
    exact ⟨rfl, rfl, fun o ho => by cases ho⟩
  | n + 1, l, r, L, h => by
    rw [opsN] at h
    obtain ⟨p, hp, h⟩ := Option.bind_eq_some_iff.1 h
    obtain ⟨o, ho, h⟩ := Option.bind_eq_some_iff.1 h
    injection h with h
    injection h with h1 h2
    subst h1 h2
    obtain ⟨a1, a2, a3⟩ := opsN_some hp
    obtain ⟨b1, b2⟩ := opAt_some ho
    refine ⟨by rw [opsB_snoc, List.append_assoc, ← b1, ← a1], by rw [List.length_append, a2]; rfl, fun x hx => ?_⟩
    rcases List.mem_append.1 hx with hx | hx
    · exact a3 x hx
    · rw [List.mem_singleton.1 hx]; exact b2
theorem oT_enc {b : Bool} {s : List UInt8} (h : s.length ≤ 20000 ∧ (b = false → s = [])) (r : List UInt8) : oT b (eT b s ++ r) = some (s, r) := by
  cases b with
  | true => exact textAt_text h.1 (by have := h.1; omega) r
  | false => rw [h.2 rfl]; rfl
theorem oT_some {b : Bool} {l s r : List UInt8} (h : oT b l = some (s, r)) : l = eT b s ++ r ∧ s.length ≤ 20000 ∧ (b = false → s = []) := by
  cases b with
  | true => have := textAt_some h; exact ⟨this.1, this.2, fun h => by cases h⟩
  | false => injection h with h; injection h with h1 h2; subst h1 h2; exact ⟨rfl, by simp, fun _ => rfl⟩
theorem oN_enc {b : Bool} {n : Int} (h : 0 ≤ n ∧ n < 2 ^ 63 ∧ (b = false → n = 0)) (r : List UInt8) : oN b (eN b n ++ r) = some (n, r) := by
  cases b with
  | true => exact numAt_num h.1 h.2.1 r
  | false => rw [h.2.2 rfl]; rfl
theorem oN_some {b : Bool} {l r : List UInt8} {n : Int} (h : oN b l = some (n, r)) : l = eN b n ++ r ∧ 0 ≤ n ∧ n < 2 ^ 63 ∧ (b = false → n = 0) := by
  cases b with
  | true => have := numAt_some h; exact ⟨this.1, this.2.1, this.2.2, fun h => by cases h⟩
  | false => injection h with h; injection h with h1 h2; subst h1 h2; exact ⟨rfl, by decide, by decide, fun _ => rfl⟩
theorem oS_enc {b : Bool} {n : Int} (h : 0 ≤ n ∧ n ≤ 2147483647 ∧ (b = false → n = 0)) (r : List UInt8) : oS b (eN b n ++ r) = some (n, r) := by
  cases b with
  | true => exact smallAt_num h.1 h.2.1 r
  | false => rw [h.2.2 rfl]; rfl
theorem oS_some {b : Bool} {l r : List UInt8} {n : Int} (h : oS b l = some (n, r)) : l = eN b n ++ r ∧ 0 ≤ n ∧ n ≤ 2147483647 ∧ (b = false → n = 0) := by
  cases b with
  | true => have := smallAt_some h; exact ⟨this.1, this.2.1, this.2.2, fun h => by cases h⟩
  | false => injection h with h; injection h with h1 h2; subst h1 h2; exact ⟨rfl, by decide, by decide, fun _ => rfl⟩
theorem oC_enc {b : Bool} {ck cv : Int} (h : 0 ≤ ck ∧ ck ≤ 2147483647 ∧ 0 ≤ cv ∧ cv < 2 ^ 63 ∧ (b = false → ck = 0 ∧ cv = 0)) (r : List UInt8) : oC b (eC b ck cv ++ r) = some ((ck, cv), r) := by
  cases b with
  | true => exact condAt_cond ⟨h.1, h.2.1, h.2.2.1, h.2.2.2.1⟩ r
  | false => rw [(h.2.2.2.2 rfl).1, (h.2.2.2.2 rfl).2]; rfl
theorem oC_some {b : Bool} {l r : List UInt8} {c : Int × Int} (h : oC b l = some (c, r)) : l = eC b c.1 c.2 ++ r ∧ 0 ≤ c.1 ∧ c.1 ≤ 2147483647 ∧ 0 ≤ c.2 ∧ c.2 < 2 ^ 63 ∧ (b = false → c.1 = 0 ∧ c.2 = 0) := by
  cases b with
  | true => have := condAt_some h; exact ⟨this.1, this.2.1, this.2.2.1, this.2.2.2.1, this.2.2.2.2, fun h => by cases h⟩
  | false => injection h with h; injection h with h1 h2; subst h1 h2; exact ⟨rfl, by decide, by decide, by decide, by decide, fun _ => ⟨rfl, rfl⟩⟩
theorem oO_enc {b : Bool} {L : List OpV} (h : L.length ≤ 16 ∧ (∀ o ∈ L, RawOp o) ∧ (b = false → L = [])) (r : List UInt8) : oO b (eO b L ++ r) = some (L, r) := by
  cases b with
  | true =>
    show opsAt ((numB L.length ++ opsB L) ++ r) = _
    unfold opsAt
    rw [List.append_assoc, smallAt_num (by omega) (by omega)]
    simp only [Option.bind_some]
    rw [if_neg (by omega), Int.toNat_natCast, opsN_ops L h.2.1 r L.length (Nat.le_refl _)]
    simp [opsB]
  | false => rw [h.2.2 rfl]; rfl
theorem oO_some {b : Bool} {l r : List UInt8} {L : List OpV} (h : oO b l = some (L, r)) : l = eO b L ++ r ∧ L.length ≤ 16 ∧ (∀ o ∈ L, RawOp o) ∧ (b = false → L = []) := by
  cases b with
  | true =>
    have h : opsAt l = some (L, r) := h
    unfold opsAt at h
    obtain ⟨p, hp, h⟩ := Option.bind_eq_some_iff.1 h
    obtain ⟨a1, a2, a3⟩ := smallAt_some hp
    split at h
    · cases h
    · next h16 =>
      obtain ⟨b1, b2, b3⟩ := opsN_some h
      refine ⟨?_, by omega, b3, fun h => by cases h⟩
      show l = (numB L.length ++ opsB L) ++ r
      rw [List.append_assoc, ← b1, show ((L.length : Nat) : Int) = p.1 by omega, ← a1]
  | false => injection h with h; injection h with h1 h2; subst h1 h2; exact ⟨rfl, by simp, (fun o ho => by cases ho), fun _ => rfl⟩
theorem raw_enc {q : Rq} (h : RawOk q) (r : List UInt8) : rawAt q.k (encB q ++ r) = some (q, r) := by
  unfold rawAt encB
  simp only [List.append_assoc]
  rw [oT_enc h.tn, Option.bind_some, oT_enc h.col, Option.bind_some, oT_enc h.uid, Option.bind_some, oT_enc h.card, Option.bind_some, oC_enc h.cond, Option.bind_some, oO_enc h.ops, Option.bind_some, oN_enc h.tok, Option.bind_some, oS_enc h.most, Option.bind_some, oS_enc h.ticks, Option.bind_some]
theorem raw_some {k : Int} {l r : List UInt8} {q : Rq} (h : rawAt k l = some (q, r)) : l = encB q ++ r ∧ q.k = k ∧ RawOk q := by
  unfold rawAt at h
  obtain ⟨t, ht, h⟩ := Option.bind_eq_some_iff.1 h
  obtain ⟨c, hc, h⟩ := Option.bind_eq_some_iff.1 h
  obtain ⟨u, hu, h⟩ := Option.bind_eq_some_iff.1 h
  obtain ⟨d, hd, h⟩ := Option.bind_eq_some_iff.1 h
  obtain ⟨n, hn, h⟩ := Option.bind_eq_some_iff.1 h
  obtain ⟨o, ho, h⟩ := Option.bind_eq_some_iff.1 h
  obtain ⟨x, hx, h⟩ := Option.bind_eq_some_iff.1 h
  obtain ⟨m, hm, h⟩ := Option.bind_eq_some_iff.1 h
  obtain ⟨i, hi, h⟩ := Option.bind_eq_some_iff.1 h
  injection h with h
  injection h with e1 e2
  subst e1 e2
  obtain ⟨t1, t2⟩ := oT_some ht
  obtain ⟨c1, c2⟩ := oT_some hc
  obtain ⟨u1, u2⟩ := oT_some hu
  obtain ⟨d1, d2⟩ := oT_some hd
  obtain ⟨n1, n2⟩ := oC_some hn
  obtain ⟨o1, o2⟩ := oO_some ho
  obtain ⟨x1, x2⟩ := oN_some hx
  obtain ⟨m1, m2⟩ := oS_some hm
  obtain ⟨i1, i2⟩ := oS_some hi
  refine ⟨?_, rfl, ⟨t2, c2, u2, d2, n2, o2, x2, m2, i2⟩⟩
  unfold encB
  simp only [List.append_assoc]
  rw [← i1, ← m1, ← x1, ← o1, ← n1, ← d1, ← u1, ← c1, ← t1]

/-- Numbers that a machine holds. -/
structure RqB (q : Rq) : Prop where
  k : -9223372036854775808 ≤ q.k ∧ q.k ≤ 9223372036854775807
  ck : -9223372036854775808 ≤ q.ck ∧ q.ck ≤ 9223372036854775807
  cv : -9223372036854775808 ≤ q.cv ∧ q.cv ≤ 9223372036854775807
  ops : ∀ o ∈ q.ops, (-9223372036854775808 ≤ o.ck ∧ o.ck ≤ 9223372036854775807) ∧ -9223372036854775808 ≤ o.cv ∧ o.cv ≤ 9223372036854775807
  tok : -9223372036854775808 ≤ q.tok ∧ q.tok ≤ 9223372036854775807
  most : -9223372036854775808 ≤ q.most ∧ q.most ≤ 9223372036854775807
  ticks : -9223372036854775808 ≤ q.ticks ∧ q.ticks ≤ 9223372036854775807
theorem may_nn {ck cv : Int} (h : mayP ck cv = true) : 0 ≤ ck ∧ ck ≤ 3 ∧ 0 ≤ cv := by
  unfold mayP at h
  split at h
  · next c =>
    have : cv = 0 := by simpa using h
    omega
  · split at h
    · next c =>
      have : 1 ≤ cv := by simpa using h
      omega
    · cases h
theorem is_len {s : List UInt8} (h : isB s = true) : s.length ≤ 900 := by
  have h : crdE s = 0 := of_decide_eq_true h
  rcases crd_or s with ⟨l, h1, _, _⟩ | ⟨_, _, e⟩
  · exact (reads_len h1).1
  · rw [e] at h; cases h
theorem name_len {s : List UInt8} (h : nameB s = true) : s.length ≤ 16 := (of_decide_eq_true h : NameP s).2.1
theorem uid_len {s : List UInt8} (h : uidB s = true) : s.length ≤ 24 := (of_decide_eq_true h : UidP s).2.1

/-- Which of a request's fields are there. -/
structure Shape (q : Rq) : Prop where
  tn : hT q.k = false → q.tn = []
  col : hC q.k = false → q.col = []
  uid : hU q.k = false → q.uid = []
  card : hCd q.k = false → q.card = []
  cond : hCn q.k = false → q.ck = 0 ∧ q.cv = 0
  ops : hO q.k = false → q.ops = []
  tok : hTk q.k = false → q.tok = 0
  most : hM q.k = false → q.most = 0
  ticks : hTi q.k = false → q.ticks = 0
  del : ∀ o ∈ q.ops, o.del = true → o.card = []
theorem stray_iff (q : Rq) : strayB q = false ↔ Shape q := by
  unfold strayB
  simp only [Bool.or_eq_false_iff, Bool.and_eq_false_iff, Bool.not_eq_false', decide_eq_false_iff_not, Decidable.not_not, List.any_eq_false, Bool.and_eq_true, decide_eq_true_eq, not_and]
  constructor
  · rintro ⟨⟨⟨⟨⟨⟨⟨⟨⟨a, b⟩, c⟩, d⟩, e⟩, f⟩, g⟩, h⟩, i⟩, j⟩
    have w : ∀ {x : Bool} {P : Prop}, (x = true ∨ P) → x = false → P := fun h k => h.elim (fun h => by rw [k] at h; cases h) id
    exact ⟨w a, w b, w c, w d, w e, w f, w g, w h, w i, fun o ho hd => j o ho hd⟩
  · rintro ⟨a, b, c, d, e, f, g, h, i, j⟩
    have w : ∀ {x : Bool} {P : Prop}, (x = false → P) → x = true ∨ P := fun {x P} h => by cases x; exact .inr (h rfl); exact .inl rfl
    exact ⟨⟨⟨⟨⟨⟨⟨⟨⟨w a, w b⟩, w c⟩, w d⟩, w e⟩, w f⟩, w g⟩, w h⟩, w i⟩, fun o ho hd => j o ho hd⟩
theorem raw_of {q : Rq} (h : chk q = 0) (hb : RqB q) : RawOk q := by
  obtain ⟨h1, h2, h3, h4, h5⟩ := chk_0 h
  have s := (stray_iff q).1 h2
  unfold namedB at h3
  simp only [Bool.and_eq_true, Bool.or_eq_true, Bool.not_eq_true', List.all_eq_true] at h3
  unfold formedB at h4
  simp only [Bool.and_eq_true, Bool.or_eq_true, Bool.not_eq_true', List.all_eq_true] at h4
  unfold outB at h5
  simp only [Bool.or_eq_false_iff, Bool.and_eq_false_iff, decide_eq_false_iff_not] at h5
  have e0 : ∀ {s : List UInt8}, s = [] → s.length ≤ 20000 := fun h => by rw [h]; simp
  obtain ⟨⟨⟨⟨r1, r2⟩, r3⟩, r4⟩, r5⟩ := h5
  refine ⟨⟨?_, s.tn⟩, ⟨?_, s.col⟩, ⟨?_, s.uid⟩, ⟨?_, s.card⟩, ?_, ⟨?_, ?_, s.ops⟩, ⟨by omega, by have := hb.tok; omega, s.tok⟩, ?_, ⟨by omega, by omega, s.ticks⟩⟩
  · rcases h3.1.1.1 with h | h
    · exact e0 (s.tn h)
    · have := name_len h; omega
  · rcases h3.1.1.2 with h | h
    · exact e0 (s.col h)
    · have := name_len h; omega
  · rcases h3.1.2 with h | h
    · exact e0 (s.uid h)
    · have := uid_len h; omega
  · rcases h4.1.1 with h | h
    · exact e0 (s.card h)
    · have := is_len h; omega
  · rcases h4.1.2 with h | h
    · obtain ⟨e1, e2⟩ := s.cond h
      rw [e1, e2]
      exact ⟨by decide, by decide, by decide, by decide, fun _ => ⟨rfl, rfl⟩⟩
    · have := may_nn h
      have := hb.cv
      exact ⟨by omega, by omega, by omega, by omega, s.cond⟩
  · rcases r1 with h | h
    · rw [s.ops h]; simp
    · omega
  · intro o ho
    have hu := uid_len (h3.2 o ho)
    have hf := h4.2 o ho
    have hm := may_nn hf.2
    have hv := (hb.ops o ho).2
    refine ⟨by omega, ?_, s.del o ho, by omega, by omega, by omega, by omega⟩
    rcases hf.1 with h | h
    · exact e0 (s.del o ho h)
    · have := is_len h; omega
  · rcases r3 with h | h
    · rw [s.most h]; exact ⟨by decide, by decide, fun _ => rfl⟩
    · exact ⟨by omega, by omega, s.most⟩

/-- Decoded as it was. -/
theorem dec_enc {q : Rq} (h : chk q = 0) (hb : RqB q) : decQ q.k (encB q) = (q, 0) := by
  have h1 := (chk_0 h).1
  have hr := raw_enc (raw_of h hb) []
  rw [List.append_nil] at hr
  unfold decQ
  rw [if_neg (by rw [h1]; decide), hr]
  simp only
  rw [if_pos h]
theorem dec_ok {k : Int} {l : List UInt8} (h : (decQ k l).2 = 0) : (decQ k l).1.k = k ∧ chk (decQ k l).1 = 0 ∧ encB (decQ k l).1 = l ∧ RawOk (decQ k l).1 := by
  unfold decQ at h ⊢
  split at h
  · cases h
  · next hk =>
    rw [if_neg hk]
    split at h
    · next q hq =>
      split at h
      · next hc =>
        rw [if_pos hc]
        obtain ⟨e1, e2, e3⟩ := raw_some hq
        exact ⟨e2, hc, by rw [e1, List.append_nil], e3⟩
      · next hc => exact absurd h hc
    · cases h
theorem dec_no {k : Int} {l : List UInt8} (h : (decQ k l).2 ≠ 0) : (decQ k l).1 = rq0 := by
  unfold decQ at h ⊢
  split
  · rfl
  · next hk =>
    rw [if_neg hk] at h
    split
    · next q hq =>
      rw [hq] at h
      simp only at h
      split
      · next hc => rw [if_pos hc] at h; exact absurd rfl h
      · rfl
    · rfl
theorem enc_uniq {q p : Rq} {r : List UInt8} (hq : RawOk q) (hp : RawOk p) (hk : p.k = q.k) (h : encB q = encB p ++ r) : p = q ∧ r = [] := by
  have h1 := raw_enc hq []
  have h2 := raw_enc hp r
  rw [List.append_nil, h, ← hk, h2] at h1
  injection h1 with h1
  injection h1 with h3 h4
  exact ⟨h3, h4⟩
/-- Cut off, or with more behind. -/
theorem dec_cut {q : Rq} (h : chk q = 0) (hb : RqB q) {n : Nat} (hn : n < (encB q).length) : (decQ q.k ((encB q).take n)).2 = 1 := by
  have hq := raw_of h hb
  unfold decQ
  rw [if_neg (by rw [(chk_0 h).1]; decide)]
  split
  · next p hp =>
    exfalso
    obtain ⟨e1, e2, e3⟩ := raw_some hp
    rw [List.append_nil] at e1
    obtain ⟨_, e5⟩ := enc_uniq (r := (encB q).drop n) hq e3 e2 (by rw [← e1, List.take_append_drop])
    have := congrArg List.length e5
    rw [List.length_drop] at this
    simp at this
    omega
  · rfl
theorem dec_more {q : Rq} (h : chk q = 0) (hb : RqB q) (c : UInt8) : (decQ q.k (encB q ++ [c])).2 = 1 := by
  unfold decQ
  rw [if_neg (by rw [(chk_0 h).1]; decide), raw_enc (raw_of h hb)]
theorem enc_nil {q : Rq} (h : chk q = 0) (he : encB q = []) : q.k = 10 ∨ q.k = 11 := by
  have hk : 1 ≤ q.k ∧ q.k ≤ 11 := by have := (chk_0 h).1; unfold isK at this; simpa using this
  have ht : ∀ s, textB s ≠ [] := fun s e => by
    have := numB_pos (n := (s.length : Int)) (by omega)
    have h2 := congrArg List.length e
    unfold textB at h2
    rw [List.length_append, List.length_nil] at h2
    omega
  refine Classical.byContradiction fun hn => ?_
  unfold encB at he
  simp only [List.append_eq_nil_iff] at he
  by_cases h1 : q.k = 1
  · have h1 := he.1
    rw [show hT q.k = true by unfold hT; simp; omega] at h1
    exact ht _ h1
  · have h1 := he.2.1
    rw [show hC q.k = true by unfold hC; simp; omega] at h1
    exact ht _ h1

end Go.Proofs.YtogjokofmfpmgaaGreatDoor
namespace Go.Proofs.YtogjokofmfpmgaaGreatDoor
open Go.RowKit

def opsE (l : List OpV) : List Value := l.flatMap opEnc
theorem opsE_at (l : List OpV) (i : Nat) (h : i < l.length) (j : Nat) (hj : j < 5) : (opsE l)[i * 5 + j]? = (opEnc l[i])[j]? := flat_at opEnc 5 opEnc_len l i h j hj
theorem opsE_len (l : List OpV) : (opsE l).length = l.length * 5 := flat_length opEnc 5 opEnc_len l
theorem opsE_app (a b : List OpV) : opsE (a ++ b) = opsE a ++ opsE b := by simp [opsE]

end Go.Proofs.YtogjokofmfpmgaaGreatDoor
namespace Go.Proofs.YtogjokofmfpmgaaGreatDoor
open Go.RowKit

def smallC (c : Nat) : Prop := lowC c ∨ (48 ≤ c ∧ c ≤ 57)
instance (c : Nat) : Decidable (smallC c) := by unfold smallC; infer_instance
theorem small_calls (c : Nat) (w : World) : Calls Tryz.prog 100 #[.int .u8 c] w fun e w' => e = .returned (.bool (decide (smallC c))) ∧ w = w' := by
  obtain ⟨v, hv⟩ : ∃ v, decide (smallC c) = v := ⟨_, rfl⟩
  rw [hv]
  have HV := hd hv
  clear hv
  by_cases h1 : (97 ≤ c ∧ c ≤ 122)
  · have HT := hd (show v = true by rw [← HV.o]; exact decide_eq_true (.inl h1))
    have a1 : decide ((97 : Int) ≤ (c : Int)) = true := by simp; omega
    have a2 : decide ((c : Int) ≤ 122) = true := by simp; omega
    clear h1
    go_enter Tryz.func100, Tryz.ntmps100
    go_wp2
    go_ret
    exact ⟨retB HT.o.symm, rfl⟩
  · by_cases h2 : (48 ≤ c ∧ c ≤ 57)
    · have HT := hd (show v = true by rw [← HV.o]; exact decide_eq_true (.inr h2))
      have a1 : decide ((97 : Int) ≤ (c : Int)) = false := by simp; omega
      have a3 : decide ((48 : Int) ≤ (c : Int)) = true := by simp; omega
      have a4 : decide ((c : Int) ≤ 57) = true := by simp; omega
      clear h1 h2
      go_enter Tryz.func100, Tryz.ntmps100
      go_wp2
      go_ret
      exact ⟨retB HT.o.symm, rfl⟩
    · have HT := hd (show v = false by rw [← HV.o]; exact decide_eq_false (fun h => h.elim h1 h2))
      by_cases b1 : 97 ≤ c
      · have a1 : decide ((97 : Int) ≤ (c : Int)) = true := by simp; omega
        have a2 : decide ((c : Int) ≤ 122) = false := by simp; omega
        have a3 : decide ((48 : Int) ≤ (c : Int)) = true := by simp; omega
        have a4 : decide ((c : Int) ≤ 57) = false := by simp; omega
        clear h1 h2 b1
        go_enter Tryz.func100, Tryz.ntmps100
        go_wp2
        go_ret
        exact ⟨retB HT.o.symm, rfl⟩
      · have a1 : decide ((97 : Int) ≤ (c : Int)) = false := by simp; omega
        by_cases b2 : 48 ≤ c
        · have a3 : decide ((48 : Int) ≤ (c : Int)) = true := by simp; omega
          have a4 : decide ((c : Int) ≤ 57) = false := by simp; omega
          clear h1 h2 b1 b2
          go_enter Tryz.func100, Tryz.ntmps100
          go_wp2
          go_ret
          exact ⟨retB HT.o.symm, rfl⟩
        · have a3 : decide ((48 : Int) ≤ (c : Int)) = false := by simp; omega
          clear h1 h2 b1 b2
          go_enter Tryz.func100, Tryz.ntmps100
          go_wp2
          go_ret
          exact ⟨retB HT.o.symm, rfl⟩

theorem head_at (s : ByteArray) (h : 0 < s.size) : (s.data.toList.headD 0).toNat = s[0].toNat := by
  have := bt_self s 0 h
  have hl : s.data.toList.length = s.size := by simp
  unfold bt at this
  cases hL : s.data.toList with
  | nil => rw [hL] at hl; simp at hl; omega
  | cons c t => rw [hL] at this; simpa using this
theorem last_at (s : ByteArray) (h : s.size - 1 < s.size) : (s.data.toList.getLastD 0).toNat = s[s.size - 1].toNat := by
  have := bt_self s (s.size - 1) h
  have hl : s.data.toList.length = s.size := by simp
  unfold bt at this
  rw [← this, List.getLastD_eq_getLast?, List.getLast?_eq_getElem?, hl, List.getD_eq_getElem?_getD]
theorem all_at (s : ByteArray) (P : Nat → Prop) : (∀ c ∈ s.data.toList, P c.toNat) ↔ ∀ k, k < s.size → P (bt s.data.toList k) := by
  have hl : s.data.toList.length = s.size := by simp
  constructor
  · intro h k hk
    have hk' : k < s.data.toList.length := by rw [hl]; exact hk
    unfold bt
    rw [List.getD_eq_getElem?_getD, List.getElem?_eq_getElem hk']
    exact h _ (List.getElem_mem hk')
  · intro h c hc
    obtain ⟨k, hk, rfl⟩ := List.getElem_of_mem hc
    have := h k (by rw [← hl]; exact hk)
    unfold bt at this
    rw [List.getD_eq_getElem?_getD, List.getElem?_eq_getElem hk] at this
    exact this

theorem nameP_iff (s : ByteArray) (h : 0 < s.size) (h' : s.size - 1 < s.size) : NameP s.data.toList ↔ s.size ≤ 16 ∧ lowC s[0].toNat ∧ s[s.size - 1].toNat ≠ 45 ∧ ∀ k, k < s.size → nameC (bt s.data.toList k) := by
  have hl : s.data.toList.length = s.size := by simp
  unfold NameP
  rw [hl, head_at s h, last_at s h', all_at s nameC]
  constructor
  · rintro ⟨_, h2, h3, h4, h5⟩; exact ⟨h2, h3, h4, h5⟩
  · rintro ⟨h2, h3, h4, h5⟩; exact ⟨h, h2, h3, h4, h5⟩
theorem nameP_short (s : ByteArray) (h : s.size < 1 ∨ 16 < s.size) : ¬ NameP s.data.toList := by
  have hl : s.data.toList.length = s.size := by simp
  unfold NameP
  rw [hl]
  rintro ⟨h1, h2, _⟩
  omega

set_option maxHeartbeats 2000000 in
theorem name_calls (s : ByteArray) (hs : s.size ≤ 1000000000) (w : World) : Calls Tryz.prog 86 #[.string s] w fun e w' => e = .returned (.bool (nameB s.data.toList)) ∧ w = w' := by
  obtain ⟨v, hv⟩ : ∃ v, nameB s.data.toList = v := ⟨_, rfl⟩
  rw [hv]
  have HF := hd (fun h => hv.symm.trans (decide_eq_false h) : ¬ NameP s.data.toList → v = false)
  have HT := hd (fun h => hv.symm.trans (decide_eq_true h) : NameP s.data.toList → v = true)
  have HSH := hd (nameP_short s)
  clear hv
  by_cases c1 : s.size < 1
  · have HV := hd (HF.o (HSH.o (.inl c1)))
    go_enter Tryz.func86, Tryz.ntmps86
    go_wp2
    go_ret
    exact ⟨retB HV.o.symm, rfl⟩
  by_cases c2 : 16 < s.size
  · have HV := hd (HF.o (HSH.o (.inr c2)))
    go_enter Tryz.func86, Tryz.ntmps86
    go_wp2
    go_ret
    exact ⟨retB HV.o.symm, rfl⟩
  have c3 : 0 < s.size := by omega
  have c4 : s.size - 1 < s.size := by omega
  have HI := hd (nameP_iff s c3 c4)
  clear HSH
  by_cases c5 : s[0].toNat < 97
  · have HV := hd (HF.o (fun h => by have := (HI.o.1 h).2.1.1; omega))
    go_enter Tryz.func86, Tryz.ntmps86
    go_wp2
    go_ret
    exact ⟨retB HV.o.symm, rfl⟩
  by_cases c6 : 122 < s[0].toNat
  · have HV := hd (HF.o (fun h => by have := (HI.o.1 h).2.1.2; omega))
    go_enter Tryz.func86, Tryz.ntmps86
    go_wp2
    go_ret
    exact ⟨retB HV.o.symm, rfl⟩
  by_cases c7 : s[s.size - 1].toNat = 45
  · have HV := hd (HF.o (fun h => (HI.o.1 h).2.2.1 c7))
    have n7 : ((s[s.size - 1].toNat : Int) == 45) = true := by simp; omega
    clear c7
    go_enter Tryz.func86, Tryz.ntmps86
    go_wp2
    go_ret
    exact ⟨retB HV.o.symm, rfl⟩
  have n7 : ((s[s.size - 1].toNat : Int) == 45) = false := by simp; omega
  have HLW := hd (show lowC s[0].toNat from ⟨by omega, by omega⟩)
  have H7 := hd c7
  clear c7
  go_enter Tryz.func86, Tryz.ntmps86
  go_wp2_with fail
  go_loop [32, 3] (fun i _ => ∃ k : Nat, i = .int .i64 k ∧ k ≤ s.size ∧ Hd (∀ j, j < k → nameC (bt s.data.toList j))) (fun i _ => s.size - (intOf i).toNat)
  case atStart => exact ⟨0, rfl, Nat.zero_le _, fun j hj => absurd hj (Nat.not_lt_zero _)⟩
  case round =>
    obtain ⟨k, rfl, hk, hh⟩ := hrel
    by_cases hlt : k < s.size
    · have BK := hd (bt_self s k hlt)
      have hki : (k : Int) < (s.size : Int) := by omega
      have hk0 : (0 : Int) ≤ (k : Int) := by omega
      have C1 := fun W => small_calls s[k].toNat W
      by_cases hc : smallC s[k].toNat
      · have HN : Hd (∀ j, j < k + 1 → nameC (bt s.data.toList j)) := fun j hj => by
          by_cases e : j = k
          · subst e; rw [BK.o]; exact hc.elim .inl (fun h => .inr (.inl h))
          · exact hh.o j (by omega)
        rw [decide_eq_true hc] at C1
        have K1 := hd C1
        clear C1 hc
        go_wp2_with (go_at_call 100; refine (K1.o _).mono ?_; rintro e w' ⟨rfl, rfl⟩)
        go_round
        case rel => exact ⟨k + 1, by go_num, by omega, HN⟩
        case measure => simp [intOf]; omega
      · rw [decide_eq_false hc] at C1
        have K1 := hd C1
        clear C1
        by_cases hm : s[k].toNat = 45
        · have HN : Hd (∀ j, j < k + 1 → nameC (bt s.data.toList j)) := fun j hj => by
            by_cases e : j = k
            · subst e; rw [BK.o]; exact .inr (.inr hm)
            · exact hh.o j (by omega)
          have nm : ((s[k].toNat : Int) != 45) = false := by simp; omega
          clear hc hm
          go_wp2_with (go_at_call 100; refine (K1.o _).mono ?_; rintro e w' ⟨rfl, rfl⟩)
          go_round
          case rel => exact ⟨k + 1, by go_num, by omega, HN⟩
          case measure => simp [intOf]; omega
        · have HV := hd (HF.o (fun h => by
            have := (HI.o.1 h).2.2.2 k hlt
            rw [BK.o] at this
            rcases this with h | h | h
            · exact hc (.inl h)
            · exact hc (.inr h)
            · exact hm h))
          have nm : ((s[k].toNat : Int) != 45) = true := by simp; omega
          clear hc hm
          go_wp2_with (go_at_call 100; refine (K1.o _).mono ?_; rintro e w' ⟨rfl, rfl⟩)
          go_ret
          exact ⟨retB HV.o.symm, rfl⟩
    · obtain rfl : k = s.size := by omega
      have HV := hd (HT.o (HI.o.2 ⟨by omega, HLW.o, H7.o, hh.o⟩))
      go_wp2
      go_ret
      exact ⟨retB HV.o.symm, rfl⟩

theorem uidP_iff (s : ByteArray) : UidP s.data.toList ↔ 1 ≤ s.size ∧ s.size ≤ 24 ∧ ∀ k, k < s.size → uidC (bt s.data.toList k) := by
  have hl : s.data.toList.length = s.size := by simp
  unfold UidP
  rw [hl, all_at s uidC]
def ubC (c : Nat) : Bool := decide (c = 45 ∨ c = 46 ∨ c = 95 ∨ c = 64)

set_option maxHeartbeats 4000000 in
theorem uid_calls (s : ByteArray) (hs : s.size ≤ 1000000000) (w : World) : Calls Tryz.prog 87 #[.string s] w fun e w' => e = .returned (.bool (uidB s.data.toList)) ∧ w = w' := by
  obtain ⟨v, hv⟩ : ∃ v, uidB s.data.toList = v := ⟨_, rfl⟩
  rw [hv]
  have HF := hd (fun h => hv.symm.trans (decide_eq_false h) : ¬ UidP s.data.toList → v = false)
  have HT := hd (fun h => hv.symm.trans (decide_eq_true h) : UidP s.data.toList → v = true)
  have HI := hd (uidP_iff s)
  clear hv
  by_cases c1 : s.size < 1
  · have HV := hd (HF.o (fun h => by have := (HI.o.1 h).1; omega))
    go_enter Tryz.func87, Tryz.ntmps87
    go_wp2
    go_ret
    exact ⟨retB HV.o.symm, rfl⟩
  by_cases c2 : 24 < s.size
  · have HV := hd (HF.o (fun h => by have := (HI.o.1 h).2.1; omega))
    go_enter Tryz.func87, Tryz.ntmps87
    go_wp2
    go_ret
    exact ⟨retB HV.o.symm, rfl⟩
  go_enter Tryz.func87, Tryz.ntmps87
  go_wp2_with fail
  go_loop [15, 3, 4] (fun i _ _ => ∃ k : Nat, i = .int .i64 k ∧ k ≤ s.size ∧ Hd (∀ j, j < k → uidC (bt s.data.toList j))) (fun i _ _ => s.size - (intOf i).toNat)
  case atStart => exact ⟨0, rfl, Nat.zero_le _, fun j hj => absurd hj (Nat.not_lt_zero _)⟩
  case round =>
    obtain ⟨k, rfl, hk, hh⟩ := hrel
    by_cases hlt : k < s.size
    · have BK := hd (bt_self s k hlt)
      have hki : (k : Int) < (s.size : Int) := by omega
      have hk0 : (0 : Int) ≤ (k : Int) := by omega
      have C1 := fun W => small_calls s[k].toNat W
      have HNX := hd (fun (hu : uidC s[k].toNat) => show ∀ j, j < k + 1 → uidC (bt s.data.toList j) from fun j hj => by
        by_cases e : j = k
        · subst e; rw [BK.o]; exact hu
        · exact hh.o j (by omega))
      have HBD := hd (fun (hu : ¬ uidC s[k].toNat) => HF.o (fun h => hu (by rw [← BK.o]; exact (HI.o.1 h).2.2 k hlt)))
      obtain ⟨c, hc⟩ : ∃ c, s[k].toNat = c := ⟨_, rfl⟩
      rw [hc] at C1 HNX HBD
      have hcv : (s[k].toNat : Int) = (c : Int) := by rw [hc]
      by_cases h1 : smallC c
      · have HN := hd (HNX.o (h1.elim .inl (fun h => .inr (.inr (.inl h)))))
        rw [decide_eq_true h1] at C1
        have K1 := hd C1
        clear C1 h1 hc
        go_wp2_with (go_at_call 100; refine (K1.o _).mono ?_; rintro e w' ⟨rfl, rfl⟩)
        go_round
        case rel => exact ⟨k + 1, by go_num, by omega, HN⟩
        case measure => simp [intOf]; omega
      · rw [decide_eq_false h1] at C1
        have K1 := hd C1
        clear C1
        by_cases h2 : 65 ≤ c ∧ c ≤ 90
        · have HN := hd (HNX.o (.inr (.inl h2)))
          have a1 : decide ((c : Int) < 65) = false := by simp; omega
          have a2 : decide ((90 : Int) < (c : Int)) = false := by simp; omega
          clear h1 h2 hc
          go_wp2_with (go_at_call 100; refine (K1.o _).mono ?_; rintro e w' ⟨rfl, rfl⟩)
          go_round
          case rel => exact ⟨k + 1, by go_num, by omega, HN⟩
          case measure => simp [intOf]; omega
        · have HXX : Hd (ubC c = true ↔ uidC c) := hd (by
            unfold ubC uidC
            rw [decide_eq_true_iff]
            constructor
            · rintro (h | h | h | h)
              · exact .inr (.inr (.inr (.inl h)))
              · exact .inr (.inr (.inr (.inr (.inl h))))
              · exact .inr (.inr (.inr (.inr (.inr (.inl h)))))
              · exact .inr (.inr (.inr (.inr (.inr (.inr h)))))
            · rintro (h | h | h | h | h | h | h)
              · exact absurd (.inl h) h1
              · exact absurd h h2
              · exact absurd (.inr h) h1
              · exact .inl h
              · exact .inr (.inl h)
              · exact .inr (.inr (.inl h))
              · exact .inr (.inr (.inr h)))
          have a12 : (decide ((c : Int) < 65) = true) ∨ (decide ((c : Int) < 65) = false ∧ decide ((90 : Int) < (c : Int)) = true) := by
            by_cases h : c < 65
            · exact .inl (by simp; omega)
            · exact .inr ⟨by simp; omega, by simp; omega⟩
          by_cases h3 : ubC c = true
          · have HN := hd (HNX.o (HXX.o.1 h3))
            unfold ubC at h3
            rw [decide_eq_true_iff] at h3
            clear h1 h2
            rcases a12 with a1 | ⟨a1, a2⟩ <;> rcases h3 with rfl | rfl | rfl | rfl
            all_goals
              clear hc
              go_wp2_with (go_at_call 100; refine (K1.o _).mono ?_; rintro e w' ⟨rfl, rfl⟩)
              go_round
              case rel => exact ⟨k + 1, by go_num, by omega, HN⟩
              case measure => simp [intOf]; omega
          · have HV := hd (HBD.o (fun h => h3 (HXX.o.2 h)))
            have m45 : ((c : Int) != 45) = true := by simp; intro h; apply h3; unfold ubC; simp; omega
            have m46 : ((c : Int) != 46) = true := by simp; intro h; apply h3; unfold ubC; simp; omega
            have m95 : ((c : Int) != 95) = true := by simp; intro h; apply h3; unfold ubC; simp; omega
            have m64 : ((c : Int) != 64) = true := by simp; intro h; apply h3; unfold ubC; simp; omega
            clear h1 h2 h3 hc
            rcases a12 with a1 | ⟨a1, a2⟩
            all_goals
              go_wp2_with (go_at_call 100; refine (K1.o _).mono ?_; rintro e w' ⟨rfl, rfl⟩)
              go_ret
              exact ⟨retB HV.o.symm, rfl⟩
    · obtain rfl : k = s.size := by omega
      have HV := hd (HT.o (HI.o.2 ⟨by omega, by omega, hh.o⟩))
      go_wp2
      go_ret
      exact ⟨retB HV.o.symm, rfl⟩

end Go.Proofs.YtogjokofmfpmgaaGreatDoor
namespace Go.Proofs.YtogjokofmfpmgaaGreatDoor
open Go.RowKit

end Go.Proofs.YtogjokofmfpmgaaGreatDoor
namespace Go.Proofs.YtogjokofmfpmgaaGreatDoor
open Go.RowKit

/-- A request as a value: its ops lie at A. -/
def reqE (q : Rq) (A : Option Addr) (c : Nat) : List Value := [.int .i64 q.k, .string (bs q.tn), .string (bs q.col), .string (bs q.uid), .string (bs q.card), .int .i64 q.ck, .int .i64 q.cv, .slice A q.ops.length c, .int .i64 q.tok, .int .i64 q.most, .int .i64 q.ticks]
def reqV (q : Rq) (A : Option Addr) (c : Nat) : Value := .agg (reqE q A c).toArray
def hasE (k : Int) : List Value := [.bool (hT k), .bool (hC k), .bool (hU k), .bool (hCd k), .bool (hCn k), .bool (hO k), .bool (hTk k), .bool (hM k), .bool (hTi k)]
theorem kind_or {k : Int} (h : isK k = true) : k = 1 ∨ k = 2 ∨ k = 3 ∨ k = 4 ∨ k = 5 ∨ k = 6 ∨ k = 7 ∨ k = 8 ∨ k = 9 ∨ k = 10 ∨ k = 11 := by
  unfold isK at h
  have : 1 ≤ k ∧ k ≤ 11 := by simpa using h
  omega

set_option maxRecDepth 100000 in
set_option maxHeartbeats 4000000 in
theorem fields_calls (k : Int) (h : isK k = true) (w : World) : Calls Tryz.prog 42 #[.int .i64 k] w fun e w' => e = .returned (.agg (hasE k).toArray) ∧ Below w.heap.size w w' := by
  have HB := hd ((Below.refl w.heap.size w).alloc (Nat.le_refl _) (.cells #[.bool false, .bool false, .bool false, .bool false, .bool false, .bool false, .bool false, .bool false, .bool false] 78))
  rcases kind_or h with rfl | rfl | rfl | rfl | rfl | rfl | rfl | rfl | rfl | rfl | rfl
  all_goals
    clear h
    go_enter Tryz.func42, Tryz.ntmps42
    go_wp2
    (try simp only [Exit.inBlock, Exit.then])
    refine bodyPost_ret (results_cell_row rfl _ _ w.heap.size 78 _ _ _ rfl (Blk.new w 78 _) rfl rfl rfl) rfl ⟨rfl, ?_⟩
    exact (Below.refl _ w).alloc (Nat.le_refl _) _

theorem isk_calls (k : Int) (w : World) : Calls Tryz.prog 51 #[.int .i64 k] w fun e w' => e = .returned (.bool (isK k)) ∧ w = w' := by
  obtain ⟨v, hv⟩ : ∃ v, isK k = v := ⟨_, rfl⟩
  rw [hv]
  have HV := hd hv
  clear hv
  by_cases h1 : 1 ≤ k
  · by_cases h2 : k ≤ 11
    · have HT := hd (show v = true by rw [← HV.o]; unfold isK; simp; omega)
      have a1 : decide ((1 : Int) ≤ k) = true := by simpa using h1
      have a2 : decide (k ≤ 11) = true := by simpa using h2
      go_enter Tryz.func51, Tryz.ntmps51
      go_wp2
      go_ret
      exact ⟨ret_bool HT.o.symm, rfl⟩
    · have HT := hd (show v = false by rw [← HV.o]; unfold isK; simp; omega)
      have a1 : decide ((1 : Int) ≤ k) = true := by simpa using h1
      have a2 : decide (k ≤ 11) = false := by simpa using h2
      go_enter Tryz.func51, Tryz.ntmps51
      go_wp2
      go_ret
      exact ⟨ret_bool HT.o.symm, rfl⟩
  · have HT := hd (show v = false by rw [← HV.o]; unfold isK; simp; omega)
    have a1 : decide ((1 : Int) ≤ k) = false := by simpa using h1
    go_enter Tryz.func51, Tryz.ntmps51
    go_wp2
    go_ret
    exact ⟨ret_bool HT.o.symm, rfl⟩

theorem writes_or (k : Int) : (k = 2 ∧ writesK k = true) ∨ (k = 3 ∧ writesK k = true) ∨ (k = 4 ∧ writesK k = true) ∨ (k = 5 ∧ writesK k = true) ∨ (k = 7 ∧ writesK k = true) ∨ (((k == 2) = false ∧ (k == 3) = false ∧ (k == 4) = false ∧ (k == 5) = false ∧ (k == 7) = false) ∧ writesK k = false) := by
  by_cases h2 : k = 2
  · subst h2; exact .inl ⟨rfl, rfl⟩
  · by_cases h3 : k = 3
    · subst h3; exact .inr (.inl ⟨rfl, rfl⟩)
    · by_cases h4 : k = 4
      · subst h4; exact .inr (.inr (.inl ⟨rfl, rfl⟩))
      · by_cases h5 : k = 5
        · subst h5; exact .inr (.inr (.inr (.inl ⟨rfl, rfl⟩)))
        · by_cases h7 : k = 7
          · subst h7; exact .inr (.inr (.inr (.inr (.inl ⟨rfl, rfl⟩))))
          · refine .inr (.inr (.inr (.inr (.inr ⟨⟨by simpa using h2, by simpa using h3, by simpa using h4, by simpa using h5, by simpa using h7⟩, ?_⟩))))
            unfold writesK
            simp
            omega
theorem writes_calls (k : Int) (w : World) : Calls Tryz.prog 22 #[.int .i64 k] w fun e w' => e = .returned (.bool (writesK k)) ∧ w = w' := by
  obtain ⟨v, hv⟩ : ∃ v, writesK k = v := ⟨_, rfl⟩
  have h := writes_or k
  rw [hv] at h ⊢
  clear hv
  rcases h with ⟨rfl, rfl⟩ | ⟨rfl, rfl⟩ | ⟨rfl, rfl⟩ | ⟨rfl, rfl⟩ | ⟨rfl, rfl⟩ | ⟨⟨a2, a3, a4, a5, a7⟩, rfl⟩
  all_goals
    go_enter Tryz.func22, Tryz.ntmps22
    go_wp2
    go_ret
    exact ⟨rfl, rfl⟩
end Go.Proofs.YtogjokofmfpmgaaGreatDoor
namespace Go.Proofs.YtogjokofmfpmgaaGreatDoor
open Go.RowKit

theorem kindL_len (k : Int) : (kindL k).length ≤ 4 := by
  unfold kindL
  repeat' split
  all_goals simp
theorem labL_len (l : Int) : (labL l).length ≤ 5 := by
  unfold labL
  repeat' split
  all_goals simp
theorem raw_sum (k l : Int) (v : List UInt8) : bs (kindL k) ++ bs (labL l) ++ ⟨#[58]⟩ ++ bs v = bs (rawL ⟨k, l, v⟩) := by
  have : (⟨#[58]⟩ : ByteArray) = bs [58] := rfl
  rw [this, bs_app2, bs_app2, bs_app2]
  congr 1
  simp [rawL, headL]

set_option maxRecDepth 100000 in
set_option maxHeartbeats 2000000 in
theorem fline_calls (f : Fld) (hs : f.v.length ≤ 1000000) (w : World) (ht : Tbs w) : Calls Tryz.prog 115 #[fldV f] w fun e w' => e = .returned (.string (bs (lineF f))) ∧ Below w.heap.size w w' := by
  have C1 := hd (fun W h => fmay_calls f hs W (ht.below h) : ∀ W, Below w.heap.size w W → _)
  obtain ⟨L, hL⟩ : ∃ L, lineF f = L := ⟨_, rfl⟩
  rw [hL]
  have hR := raw_sum f.k f.l f.v
  have hl1 := kindL_len f.k
  have hl2 := labL_len f.l
  rw [← bs_size] at hl1 hl2
  have hz3 : (bs f.v).size ≤ 1000000 := by rw [bs_size]; exact hs
  have HB0 := hd ((Below.refl w.heap.size w).alloc (Nat.le_refl _) (.cells #[.int .i64 f.k, .int .i64 f.l, .string (bs f.v)] 128))
  have HK := hd (Blk.new w 128 #[.int .i64 f.k, .int .i64 f.l, .string (bs f.v)])
  by_cases hm : MayF f
  · rw [mayF_t hm] at C1
    have hok := may_ok hm
    obtain ⟨hk, hl⟩ := (okKL_iff _ _).1 hok
    have C2 := label_calls f.k f.l
    have C3 := kind_calls f.k
    rw [show decide (okL f.k f.l) = true by simp [hl], show labV f.k f.l = labL f.l by rw [labV, if_pos hl]] at C2
    rw [line_yes hm] at hL
    have HL := hd hL
    obtain ⟨k, l, v⟩ := f
    simp only [fldV] at C1
    change Calls _ _ #[.agg #[.int .i64 k, .int .i64 l, .string (bs v)]] _ _
    simp only at hR hl1 hl2 hz3 HB0 HK C2 C3
    obtain ⟨K, hK⟩ : ∃ K, bs (kindL k) = K := ⟨_, rfl⟩
    obtain ⟨B, hB⟩ : ∃ B, bs (labL l) = B := ⟨_, rfl⟩
    obtain ⟨V, hV⟩ : ∃ V, bs v = V := ⟨_, rfl⟩
    rw [hK] at C3 hl1
    rw [hB] at C2 hl2
    rw [hV] at C1 hz3 HB0 HK ⊢
    rw [hK, hB, hV] at hR
    have HR := hd hR
    have H2 := hd C2
    have H3 := hd C3
    clear hK hB hV hR C2 C3 hL hm hok hk hl hs ht
    go_enter Tryz.func115, Tryz.ntmps115
    go_wp2_with fail
    refine (C1.o _ HB0.o).mono ?_
    rintro e w1 ⟨rfl, hb1⟩
    have k1 := HK.o.below hb1 (by simp)
    have HB1 := hd (HB0.o.trans (hb1.mono HB0.o.size))
    have a0 := k1.at_ 0 rfl
    have a1 := k1.at_ 1 rfl
    have a2 := k1.at_ 2 rfl
    clear k1 hb1 HK HB0 C1
    go_wp2_with fail
    refine (H2.o _).mono ?_
    rintro e w2 ⟨rfl, rfl⟩
    go_wp2_with fail
    go_quiet ((go_at_call 114; exact q1 (H3.o _)))
    go_wp2
    go_ret
    exact ⟨retS (HR.o.trans (by rw [← HL.o])), bdrewN HB1.o _⟩
  · rw [mayF_f hm] at C1
    rw [line_no hm] at hL
    have HL := hd hL
    obtain ⟨k, l, v⟩ := f
    simp only [fldV] at C1
    change Calls _ _ #[.agg #[.int .i64 k, .int .i64 l, .string (bs v)]] _ _
    simp only at HB0 HK
    clear hL hm hs ht hR hl1 hl2 hz3
    go_enter Tryz.func115, Tryz.ntmps115
    go_wp2_with fail
    refine (C1.o _ HB0.o).mono ?_
    rintro e w1 ⟨rfl, hb1⟩
    have HB1 := hd (HB0.o.trans (hb1.mono HB0.o.size))
    clear hb1 HK HB0 C1
    go_wp2
    go_ret
    exact ⟨retS (by rw [← HL.o]; rfl), HB1.o⟩

end Go.Proofs.YtogjokofmfpmgaaGreatDoor
