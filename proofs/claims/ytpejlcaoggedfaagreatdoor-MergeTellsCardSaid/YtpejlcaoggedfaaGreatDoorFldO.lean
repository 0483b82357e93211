/-
  Fields and their order, plain.
-/
import Derived.Test.YtpejlcaoggedfaaGreatDoorBase
import Derived.Test.YtpejlcaoggedfaaGreatDoorBytesOrd
set_option linter.unusedVariables false
set_option linter.unusedSimpArgs false
namespace Go.Proofs.YtpejlcaoggedfaaGreatDoor
open Go.RowKit Go.Lib

structure Fld where
  k : Int
  l : Int
  v : List UInt8
deriving DecidableEq
def noFld : Fld := ⟨0, 0, []⟩
theorem fld_ext {f g : Fld} (h1 : f.k = g.k) (h2 : f.l = g.l) (h3 : f.v = g.v) : f = g := by
  cases f; cases g; simp at *; exact ⟨h1, h2, h3⟩
def fldV (f : Fld) : Value := .agg #[.int .i64 f.k, .int .i64 f.l, .string (bs f.v)]
def LessP (f g : Fld) : Prop := f.k < g.k ∨ (f.k = g.k ∧ (f.l < g.l ∨ (f.l = g.l ∧ compareBytes f.v g.v < 0)))
instance (f g : Fld) : Decidable (LessP f g) := by unfold LessP; infer_instance
def lessF (f g : Fld) : Bool := decide (LessP f g)
theorem less_irr (f : Fld) : ¬ LessP f f := by
  rintro (h | ⟨_, h | ⟨_, h⟩⟩)
  · omega
  · omega
  · rw [cmp_self] at h; omega
theorem less_trans {f g h : Fld} (h1 : LessP f g) (h2 : LessP g h) : LessP f h := by
  rcases h1 with h1 | ⟨e1, h1 | ⟨d1, h1⟩⟩ <;> rcases h2 with h2 | ⟨e2, h2 | ⟨d2, h2⟩⟩
  · left; omega
  · left; omega
  · left; omega
  · left; omega
  · right; exact ⟨by omega, .inl (by omega)⟩
  · right; exact ⟨by omega, .inl (by omega)⟩
  · left; omega
  · right; exact ⟨by omega, .inl (by omega)⟩
  · right; exact ⟨by omega, .inr ⟨by omega, cmp_trans h1 h2⟩⟩
theorem less_asym {f g : Fld} (h : LessP f g) : ¬ LessP g f := fun k => less_irr f (less_trans h k)
theorem less_tot {f g : Fld} (h : f ≠ g) : LessP f g ∨ LessP g f := by
  by_cases h1 : f.k < g.k
  · exact .inl (.inl h1)
  · by_cases h2 : g.k < f.k
    · exact .inr (.inl h2)
    · have e1 : f.k = g.k := by omega
      by_cases h3 : f.l < g.l
      · exact .inl (.inr ⟨e1, .inl h3⟩)
      · by_cases h4 : g.l < f.l
        · exact .inr (.inr ⟨e1.symm, .inl h4⟩)
        · have e2 : f.l = g.l := by omega
          have hv : f.v ≠ g.v := fun e => h (fld_ext e1 e2 e)
          by_cases h5 : compareBytes f.v g.v < 0
          · exact .inl (.inr ⟨e1, .inr ⟨e2, h5⟩⟩)
          · exact .inr (.inr ⟨e1.symm, .inr ⟨e2.symm, cmp_not h5 hv⟩⟩)
theorem less_ne {f g : Fld} (h : LessP f g) : f ≠ g := fun e => less_irr g (e ▸ h)
theorem less_not {f g : Fld} (h : ¬ LessP f g) (hn : f ≠ g) : LessP g f := (less_tot hn).resolve_left h


end Go.Proofs.YtpejlcaoggedfaaGreatDoor
