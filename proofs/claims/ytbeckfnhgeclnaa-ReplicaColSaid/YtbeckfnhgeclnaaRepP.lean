/-
  What an answer does to a copy: plain.
-/
import Derived.Test.YtbeckfnhgeclnaaItP
set_option linter.unusedVariables false
set_option linter.unusedSimpArgs false
namespace Go.Proofs.Ytbeckfnhgeclnaa
open Go.RowKit

/-- An answer (its items stand beside it). -/
structure Rs where
  kind : Int
  err : Int
  token : Int
  version : Int
  card : List UInt8
  index : Int
  more : Bool
def rsEnc (r : Rs) (A : Option Addr) (n c : Nat) : List Value := [.int .i64 r.kind, .int .i64 r.err, .int .i64 r.token, .int .i64 r.version, .string (bs r.card), .int .i64 r.index, .bool r.more, .slice A n c]

def badIt (asked : Int) (pre : List It) (x : It) : Bool := decide (x.ver < 1) || ((asked != 0) && decide (x.ver ≤ asked)) || (pre.any fun y => y.uid == x.uid)
def okIts (asked : Int) (l : List It) : Prop := ∀ k (h : k < l.length), badIt asked (l.take k) l[k] = false
theorem okIts_bad {asked : Int} {l : List It} {k : Nat} (h : k < l.length) (hb : badIt asked (l.take k) l[k] = true) : ¬ okIts asked l := fun ho => by
  rw [ho k h] at hb; cases hb
/-- What one item does. -/
def stepIt (ml : ML It) (x : It) : ML It := if x.gone = true then delM ml x.uid else putM ml x.uid ⟨x.uid, x.ver, false, x.card⟩
def foldIts (ml : ML It) (l : List It) : ML It := l.foldl stepIt ml
theorem foldIts_snoc (ml : ML It) (l : List It) (x : It) : foldIts ml (l ++ [x]) = stepIt (foldIts ml l) x := by simp [foldIts, List.foldl_append]
theorem stepIt_rise {ml : ML It} (h : Rising ml) (x : It) : Rising (stepIt ml x) := by
  unfold stepIt
  split
  · exact (delM_spec x.uid h).1
  · exact (putM_spec x.uid _ h).1
theorem foldIts_rise {ml : ML It} (h : Rising ml) : ∀ l, Rising (foldIts ml l) := by
  intro l
  induction l generalizing ml with
  | nil => exact h
  | cons x l ih => exact ih (stepIt_rise h x)
theorem stepIt_len (ml : ML It) (x : It) : (stepIt ml x).length ≤ ml.length + 1 := by
  unfold stepIt
  split
  · have := delM_len ml x.uid; omega
  · exact putM_len ml x.uid _
theorem foldIts_len (ml : ML It) : ∀ l, (foldIts ml l).length ≤ ml.length + l.length := by
  intro l
  induction l generalizing ml with
  | nil => simp [foldIts]
  | cons x l ih =>
    have h1 := ih (stepIt ml x)
    have h2 := stepIt_len ml x
    simp only [foldIts, List.foldl_cons, List.length_cons] at h1 ⊢
    omega
theorem take_len_le (ml : ML It) (l : List It) (k : Nat) : (foldIts ml (l.take k)).length ≤ ml.length + l.length := by
  have := foldIts_len ml (l.take k)
  have h2 : (l.take k).length ≤ l.length := by rw [List.length_take]; omega
  omega

/-- A copy's state: its token, whether there is more, its cards. -/
structure St where
  token : Int
  more : Bool
  ml : ML It
open Classical in
/-- An answer is taken in: what is said, and what the copy is then. -/
noncomputable def foldSem (s : St) (asked : Int) (r : Rs) (l : List It) : Int × St :=
  if r.kind ≠ 8 ∨ asked ≠ s.token then (10, s)
  else if r.err = 8 then (0, ⟨0, false, []⟩)
  else if r.err ≠ 0 then (10, s)
  else if r.token < asked then (1, s)
  else if ¬ okIts asked l then (1, s)
  else (0, ⟨r.token, r.more, foldIts (if asked = 0 then [] else s.ml) l⟩)

theorem fold_kind {s : St} {asked : Int} {r : Rs} {l : List It} (h : r.kind ≠ 8 ∨ asked ≠ s.token) : foldSem s asked r l = (10, s) := by simp only [foldSem, if_pos h]
theorem fold_tok {s : St} {asked : Int} {r : Rs} {l : List It} (h1 : r.kind = 8) (h2 : asked = s.token) (h : r.err = 8) : foldSem s asked r l = (0, ⟨0, false, []⟩) := by
  simp only [foldSem, if_neg (show ¬ (r.kind ≠ 8 ∨ asked ≠ s.token) by simp [h1, h2]), if_pos h]
theorem fold_err {s : St} {asked : Int} {r : Rs} {l : List It} (h1 : r.kind = 8) (h2 : asked = s.token) (h3 : r.err ≠ 8) (h : r.err ≠ 0) : foldSem s asked r l = (10, s) := by
  simp only [foldSem, if_neg (show ¬ (r.kind ≠ 8 ∨ asked ≠ s.token) by simp [h1, h2]), if_neg h3, if_pos h]
theorem fold_low {s : St} {asked : Int} {r : Rs} {l : List It} (h1 : r.kind = 8) (h2 : asked = s.token) (h3 : r.err = 0) (h : r.token < asked) : foldSem s asked r l = (1, s) := by
  simp only [foldSem, if_neg (show ¬ (r.kind ≠ 8 ∨ asked ≠ s.token) by simp [h1, h2]), if_neg (show ¬ r.err = 8 by omega), if_neg (show ¬ r.err ≠ 0 by simp [h3]), if_pos h]
theorem fold_bad {s : St} {asked : Int} {r : Rs} {l : List It} (h1 : r.kind = 8) (h2 : asked = s.token) (h3 : r.err = 0) (h4 : ¬ r.token < asked) (h : ¬ okIts asked l) : foldSem s asked r l = (1, s) := by
  simp only [foldSem, if_neg (show ¬ (r.kind ≠ 8 ∨ asked ≠ s.token) by simp [h1, h2]), if_neg (show ¬ r.err = 8 by omega), if_neg (show ¬ r.err ≠ 0 by simp [h3]), if_neg h4, if_pos h]
theorem fold_ok {s : St} {asked : Int} {r : Rs} {l : List It} (h1 : r.kind = 8) (h2 : asked = s.token) (h3 : r.err = 0) (h4 : ¬ r.token < asked) (h : okIts asked l) : foldSem s asked r l = (0, ⟨r.token, r.more, foldIts (if asked = 0 then [] else s.ml) l⟩) := by
  simp only [foldSem, if_neg (show ¬ (r.kind ≠ 8 ∨ asked ≠ s.token) by simp [h1, h2]), if_neg (show ¬ r.err = 8 by omega), if_neg (show ¬ r.err ≠ 0 by simp [h3]), if_neg h4, if_neg (show ¬ ¬ okIts asked l by simpa using h)]

end Go.Proofs.Ytbeckfnhgeclnaa
