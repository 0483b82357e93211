/-
  How often each has come: plain.
-/
import Derived.Test.YtbeckfnhgeclnaaRepP
import Derived.Maps.Views
import Derived.Maps.OwnOps
namespace Go.Proofs.Ytbeckfnhgeclnaa
open Go.RowKit Go.Maps

def cntU (l : List It) (s : List UInt8) : Nat := l.countP fun y => y.uid == s
theorem cntU_le (l : List It) (s : List UInt8) : cntU l s ≤ l.length := List.countP_le_length
theorem cntU_snoc (l : List It) (x : It) (s : List UInt8) : cntU (l ++ [x]) s = cntU l s + if x.uid = s then 1 else 0 := by
  unfold cntU
  rw [List.countP_append]
  by_cases h : x.uid = s <;> simp [h]
theorem cntU_any (l : List It) (s : List UInt8) : (l.any fun y => y.uid == s) = decide (0 < cntU l s) := by
  unfold cntU
  rw [Bool.eq_iff_iff, List.any_eq_true, decide_eq_true_iff, List.countP_pos_iff]
abbrev z64 {H : Type} : DataW H := .lit (.int .i64 0)
structure Seen {H : Type} (D : DataW H) (l : List It) : Prop where
  map : IsMap D
  at_ : ∀ s, D.atKey (.string s) z64 = .lit (.int .i64 (cntU l s : Nat))
theorem Seen.start {H : Type} : Seen (.map [] : DataW H) [] := ⟨isMap_empty, fun s => by simp [DataW.atKey, cntU]⟩
theorem Seen.step {H : Type} {D : DataW H} {l : List It} (h : Seen D l) (x : It) : Seen (D.put (.string x.uid) (.lit (.int .i64 ((cntU l x.uid : Int) + 1)))) (l ++ [x]) := by
  refine ⟨h.map.put _ _, fun s => ?_⟩
  rw [cntU_snoc]
  by_cases he : x.uid = s
  · subst he
    rw [atKey_put_same h.map (show WideAt.IsKeyLit (.string x.uid) from trivial), if_pos rfl]
    simp
  · rw [atKey_put_other (by intro e; injection e with e; exact he e.symm), h.at_, if_neg he]
    simp
theorem cnt_eq {H : Type} {D : DataW H} {l : List It} {s : List UInt8} {c : Int} {q : Nat} (h : Seen D l) (hq : cntU l s = q) (hat : D.atKey (.string s) z64 = .lit (.int .i64 c)) : c = (q : Int) := by
  have h1 := (h.at_ s).symm.trans hat
  injection h1 with h1
  injection h1 with _ h1
  rw [← h1, hq]
theorem badIt_eq (asked : Int) (pre : List It) (x : It) : badIt asked pre x = (decide (x.ver < 1) || ((asked != 0) && decide (x.ver ≤ asked)) || decide (0 < cntU pre x.uid)) := by
  rw [badIt, cntU_any]

end Go.Proofs.Ytbeckfnhgeclnaa
