/-
  What a check says, plainly.
-/
import Derived.Test.YtbeckfnhgeclnaaHoldsC
import Derived.Test.YtbeckfnhgeclnaaColP
set_option linter.unusedVariables false
set_option linter.unusedSimpArgs false
namespace Go.Proofs.Ytbeckfnhgeclnaa
open Go.RowKit Go.Lib

def uidIn (l : List OpV) (u : List UInt8) : Bool := l.any fun x => decide (x.uid = u)
theorem uidIn_snoc (l : List OpV) (x : OpV) (u : List UInt8) : uidIn (l ++ [x]) u = (uidIn l u || decide (x.uid = u)) := by simp [uidIn]

/-- One write looked at: what is wrong, or how many and how much then. -/
def chkO (s : Cs) (room : Int) (pre : List OpV) (o : OpV) (m g : Int) : Int ⊕ (Int × Int) :=
  if uidIn pre o.uid = true then .inl 11
  else if holdsP o.ck o.cv (hasM s.ml o.uid) (verM s.ml o.uid) = false then .inl 6
  else if o.del = true ∧ hasM s.ml o.uid = false then .inl 4
  else
    let m' := (if hasM s.ml o.uid = true then m - 1 else m) + (if o.del = true then 0 else 1)
    let g' := (if hasM s.ml o.uid = true then g - ((txtM s.ml o.uid).length : Int) else g) + (if o.del = true then 0 else (o.card.length : Int))
    if s.most < m' ∨ room < g' then .inl 7 else .inr (m', g')
def chkG (s : Cs) (room : Int) : List OpV → List OpV → Int → Int → Int × Int × Int
  | _, [], _, g => (0, g, 0)
  | pre, o :: r, m, g =>
    match chkO s room pre o m g with
    | .inl e => ((pre.length : Int), 0, e)
    | .inr p => chkG s room (pre ++ [o]) r p.1 p.2
theorem chkG_err {s : Cs} {room : Int} {l : List OpV} {k : Nat} {m g e : Int} (h : k < l.length) (hc : chkO s room (l.take k) l[k] m g = .inl e) : chkG s room (l.take k) (l.drop k) m g = ((k : Int), 0, e) := by
  rw [List.drop_eq_getElem_cons h, chkG, hc]
  simp only [List.length_take]
  rw [Nat.min_eq_left (Nat.le_of_lt h)]
theorem chkG_ok {s : Cs} {room : Int} {l : List OpV} {k : Nat} {m g : Int} {p : Int × Int} (h : k < l.length) (hc : chkO s room (l.take k) l[k] m g = .inr p) : chkG s room (l.take k) (l.drop k) m g = chkG s room (l.take (k + 1)) (l.drop (k + 1)) p.1 p.2 := by
  rw [List.drop_eq_getElem_cons h, chkG, hc, List.take_succ_eq_append_getElem h]

end Go.Proofs.Ytbeckfnhgeclnaa
