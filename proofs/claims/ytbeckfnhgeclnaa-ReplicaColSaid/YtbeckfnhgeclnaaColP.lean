/-
  A collection: plain.
-/
import Derived.Test.YtbeckfnhgeclnaaItP
set_option linter.unusedVariables false
set_option linter.unusedSimpArgs false
namespace Go.Proofs.Ytbeckfnhgeclnaa
open Go.RowKit Go.Lib

/-- A write. -/
structure OpV where
  del : Bool
  uid : List UInt8
  card : List UInt8
  ck : Int
  cv : Int
  deriving DecidableEq
def opEnc (o : OpV) : List Value := [.bool o.del, .string (bs o.uid), .string (bs o.card), .int .i64 o.ck, .int .i64 o.cv]
theorem opEnc_len (o : OpV) : (opEnc o).length = 5 := rfl

def verM (ml : ML Ce) (k : List UInt8) : Int := match getM ml k with | some v => v.ver | none => 0
def txtM (ml : ML Ce) (k : List UInt8) : List UInt8 := match getM ml k with | some v => v.text | none => []
theorem txt_none {ml : ML Ce} {k : List UInt8} (h : hasM ml k = false) : txtM ml k = [] := by
  unfold hasM at h
  unfold txtM
  cases hg : getM ml k with
  | none => rfl
  | some v => rw [hg] at h; cases h
theorem ver_none {ml : ML Ce} {k : List UInt8} (h : hasM ml k = false) : verM ml k = 0 := by
  unfold hasM at h
  unfold verM
  cases hg : getM ml k with
  | none => rfl
  | some v => rw [hg] at h; cases h
theorem get_some {ml : ML Ce} {k : List UInt8} (h : hasM ml k = true) : getM ml k = some ⟨verM ml k, txtM ml k⟩ := by
  unfold hasM at h
  unfold verM txtM
  cases hg : getM ml k with
  | none => rw [hg] at h; cases h
  | some v => rfl

def bytesM (ml : ML Ce) : Int := (ml.map fun e => (e.2.text.length : Int)).sum
theorem bytesM_nil : bytesM [] = 0 := rfl
theorem bytesM_cons (e : List UInt8 × Ce) (ml : ML Ce) : bytesM (e :: ml) = e.2.text.length + bytesM ml := by simp [bytesM]
theorem bytesM_nn : ∀ ml : ML Ce, 0 ≤ bytesM ml
  | [] => by simp [bytesM]
  | e :: ml => by
    have := bytesM_nn ml
    rw [bytesM_cons]
    omega
theorem txtM_cons_ne {e : List UInt8 × Ce} {ml : ML Ce} {k : List UInt8} (h : e.1 ≠ k) : txtM (e :: ml) k = txtM ml k := by unfold txtM; rw [getM_cons_ne h]
theorem txtM_cons_eq {e : List UInt8 × Ce} {ml : ML Ce} {k : List UInt8} (h : e.1 = k) : txtM (e :: ml) k = e.2.text := by unfold txtM; rw [getM_cons_eq h]
theorem bytesM_put : ∀ {ml : ML Ce} (k : List UInt8) (v : Ce), Rising ml → bytesM (putM ml k v) = bytesM ml - (txtM ml k).length + v.text.length
  | [], k, v, _ => by simp [putM, hasM, getM, place, bytesM, txtM]
  | e :: ml, k, v, hr => by
    by_cases h : compareBytes e.1 k < 0
    · rw [putM_cons_lt h, bytesM_cons, bytesM_cons, bytesM_put k v hr.tail, txtM_cons_ne (cmp_ne h)]
      omega
    · by_cases he : e.1 = k
      · have e1 : putM (e :: ml) k v = (k, v) :: ml := by simp [putM, hasM_cons_eq he, place_cons_ge hr h]
        rw [e1, bytesM_cons, bytesM_cons, txtM_cons_eq he]
        simp only
        omega
      · have e1 : putM (e :: ml) k v = (k, v) :: e :: ml := by simp [putM, hasM_cons_gt hr h he, place_cons_ge hr h]
        rw [e1, bytesM_cons, txt_none (hasM_cons_gt hr h he)]
        simp
        omega
theorem bytesM_del : ∀ {ml : ML Ce} (k : List UInt8), Rising ml → bytesM (delM ml k) = bytesM ml - (txtM ml k).length
  | [], k, _ => by simp [delM, hasM, getM, bytesM, txtM]
  | e :: ml, k, hr => by
    by_cases h : compareBytes e.1 k < 0
    · rw [delM_cons_lt h, bytesM_cons, bytesM_cons, bytesM_del k hr.tail, txtM_cons_ne (cmp_ne h)]
      omega
    · by_cases he : e.1 = k
      · have e1 : delM (e :: ml) k = ml := by simp [delM, hasM_cons_eq he, place_cons_ge hr h]
        rw [e1, bytesM_cons, txtM_cons_eq he]
        omega
      · have e1 : delM (e :: ml) k = e :: ml := by simp [delM, hasM_cons_gt hr h he]
        rw [e1, txt_none (hasM_cons_gt hr h he)]
        simp
theorem txtM_le {ml : ML Ce} (k : List UInt8) : ((txtM ml k).length : Int) ≤ bytesM ml := by
  induction ml with
  | nil => simp [txtM, getM, bytesM]
  | cons e ml ih =>
    by_cases h : e.1 = k
    · rw [txtM_cons_eq h, bytesM_cons]; have := bytesM_nn ml; omega
    · rw [txtM_cons_ne h, bytesM_cons]; omega

/-- The collection's state. -/
structure Cs where
  most : Int
  cap : Int
  ml : ML Ce
  log : List (Int × List UInt8)
  latest : Int
  horizon : Int
def pushFull (cap : Int) (l : List (Int × List UInt8)) : Bool := decide ((l.length : Int) = cap)
def pushL (cap : Int) (l : List (Int × List UInt8)) (x : Int × List UInt8) : List (Int × List UInt8) := (if pushFull cap l = true then l.drop 1 else l) ++ [x]
def Cs.no (s : Cs) (o : OpV) (t : Int) : Bool := decide (t < s.latest) || (o.del && !hasM s.ml o.uid) || (!o.del && !hasM s.ml o.uid && decide (s.most ≤ (s.ml.length : Int)))
def Cs.mls (s : Cs) (o : OpV) (t : Int) : ML Ce := if o.del = true then delM s.ml o.uid else putM s.ml o.uid ⟨t, o.card⟩
def Cs.hor (s : Cs) : Int := if pushFull s.cap s.log = true then max s.horizon (s.log.headD (0, [])).1 else s.horizon
def Cs.app (s : Cs) (o : OpV) (t : Int) : Cs := ⟨s.most, s.cap, s.mls o t, pushL s.cap s.log (t, o.uid), t, s.hor⟩
def Cs.step (s : Cs) (o : OpV) (t : Int) : Bool × Cs := if s.no o t = true then (false, s) else (true, s.app o t)
/-- What is always so. -/
structure Cs.Ok (s : Cs) : Prop where
  rise : Rising s.ml
  cap1 : 1 ≤ s.cap
  loglen : (s.log.length : Int) ≤ s.cap
  most1 : 1 ≤ s.most
  mllen : (s.ml.length : Int) ≤ s.most
def Cs.new (birth cards log : Int) : Cs := ⟨max cards 1, max log 1, [], [], birth, birth⟩
theorem Cs.new_ok (birth cards log : Int) : (Cs.new birth cards log).Ok := ⟨List.Pairwise.nil, by show 1 ≤ max log 1; omega, by show (0 : Int) ≤ max log 1; omega, by show 1 ≤ max cards 1; omega, by show (0 : Int) ≤ max cards 1; omega⟩
theorem pushL_len (cap : Int) (l : List (Int × List UInt8)) (x : Int × List UInt8) (h1 : 1 ≤ cap) (h : (l.length : Int) ≤ cap) : ((pushL cap l x).length : Int) ≤ cap ∧ (pushL cap l x).length ≤ l.length + 1 := by
  unfold pushL pushFull
  by_cases hf : (l.length : Int) = cap
  · simp [hf]
    have : 1 ≤ l.length := by omega
    omega
  · simp [hf]
    omega
theorem putM_there_len {V : Type} {l : ML V} {k : List UInt8} {v : V} (h : hasM l k = true) : (putM l k v).length = l.length := by simp [putM, h]
theorem Cs.app_ok {s : Cs} (h : s.Ok) {o : OpV} {t : Int} (hn : s.no o t = false) : (s.app o t).Ok := by
  have hp := pushL_len s.cap s.log (t, o.uid) h.cap1 h.loglen
  refine ⟨?_, h.cap1, hp.1, h.most1, ?_⟩
  · show Rising (s.mls o t)
    unfold Cs.mls
    split
    · exact (delM_spec _ h.rise).1
    · exact (putM_spec _ _ h.rise).1
  · show ((s.mls o t).length : Int) ≤ s.most
    have hm := h.mllen
    unfold Cs.mls
    by_cases hd : o.del = true
    · rw [if_pos hd]
      have := delM_len s.ml o.uid
      omega
    · rw [if_neg hd]
      by_cases hh : hasM s.ml o.uid = true
      · rw [putM_there_len hh]; exact hm
      · have := putM_len s.ml o.uid ⟨t, o.card⟩
        have hd2 : o.del = false := by simpa using hd
        have hh2 : hasM s.ml o.uid = false := by simpa using hh
        simp [Cs.no, hd2, hh2] at hn
        omega
theorem Cs.step_ok {s : Cs} (h : s.Ok) (o : OpV) (t : Int) : (s.step o t).2.Ok := by
  unfold Cs.step
  cases hn : s.no o t with
  | true => exact h
  | false => exact Cs.app_ok h hn
theorem Cs.app_sizes {s : Cs} (h : s.Ok) (o : OpV) (t : Int) : (s.app o t).ml.length ≤ s.ml.length + 1 ∧ (s.app o t).log.length ≤ s.log.length + 1 ∧ bytesM (s.app o t).ml ≤ bytesM s.ml + o.card.length := by
  refine ⟨?_, (pushL_len s.cap s.log (t, o.uid) h.cap1 h.loglen).2, ?_⟩
  · show (s.mls o t).length ≤ _
    unfold Cs.mls
    split
    · have := delM_len s.ml o.uid; omega
    · exact putM_len _ _ _
  · show bytesM (s.mls o t) ≤ _
    unfold Cs.mls
    split
    · rw [bytesM_del _ h.rise]; omega
    · rw [bytesM_put _ _ h.rise]
      simp only
      omega
theorem Cs.step_sizes {s : Cs} (h : s.Ok) (o : OpV) (t : Int) : (s.step o t).2.ml.length ≤ s.ml.length + 1 ∧ (s.step o t).2.log.length ≤ s.log.length + 1 ∧ bytesM (s.step o t).2.ml ≤ bytesM s.ml + o.card.length := by
  unfold Cs.step
  cases hn : s.no o t with
  | true => exact ⟨by simp, by simp, by simp; omega⟩
  | false => exact Cs.app_sizes h o t

end Go.Proofs.Ytbeckfnhgeclnaa
