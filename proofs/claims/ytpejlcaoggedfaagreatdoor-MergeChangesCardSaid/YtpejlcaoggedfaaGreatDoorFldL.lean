/-
  Fields: which is ahead, on both sides.
-/
import Derived.Test.YtpejlcaoggedfaaGreatDoorFldO
import Derived.Test.YtpejlcaoggedfaaGreatDoorProg
set_option linter.unusedVariables false
set_option linter.unusedSimpArgs false
namespace Go.Proofs.YtpejlcaoggedfaaGreatDoor
open Go.RowKit Go.Lib

theorem less_cmp : ∀ a b : List UInt8, Op.bytesLess a b = decide (compareBytes a b < 0)
  | [], [] => by simp [Op.bytesLess, compareBytes]
  | [], _ :: _ => by simp [Op.bytesLess, compareBytes]
  | _ :: _, [] => by simp [Op.bytesLess, compareBytes]
  | a :: t1, b :: t2 => by
    rw [Op.bytesLess, cmp_cons, less_cmp t1 t2]
    by_cases h1 : a.toNat < b.toNat
    · have h : a < b := (u8_lt a b).2 h1
      simp [h1, h]
    · have h : ¬ a < b := fun h => h1 ((u8_lt a b).1 h)
      by_cases h2 : b.toNat < a.toNat
      · have hne : ¬ a = b := fun e => by rw [e] at h2; omega
        simp [h1, h2, h, hne]
      · have he : a = b := UInt8.toNat_inj.1 (by omega)
        subst he
        simp [h1]
theorem bytesLess_dec (a b : List UInt8) : Op.bytesLess (bs a).toList (bs b).toList = decide (compareBytes a b < 0) := by
  rw [less_cmp, toList_data, toList_data]
  rfl
theorem twoB (w : World) (o1 o2 : Obj) : Below w.heap.size w ((w.alloc o1).alloc o2) := ((Below.refl _ w).alloc (Nat.le_refl _) _).alloc (by simp) _
theorem retBB {a b : Bool} (h : a = b) : Ending.returned (.bool a) = .returned (.bool b) := by rw [h]

set_option maxHeartbeats 1000000 in
theorem less_calls (f g : Fld) (w : World) : Calls Tryz.prog 59 #[fldV f, fldV g] w fun e w' => e = .returned (.bool (lessF f g)) ∧ Below w.heap.size w w' := by
  obtain ⟨v, hv⟩ : ∃ v, lessF f g = v := ⟨_, rfl⟩
  rw [hv]
  have HV : Hd (decide (LessP f g) = v) := hd hv
  have hs := bytesLess_dec f.v g.v
  clear hv
  obtain ⟨fk, fl, fv⟩ := f
  obtain ⟨gk, gl, gv⟩ := g
  change Calls _ _ #[.agg #[.int .i64 fk, .int .i64 fl, .string (bs fv)], .agg #[.int .i64 gk, .int .i64 gl, .string (bs gv)]] _ _
  by_cases h1 : fk = gk
  · by_cases h2 : fl = gl
    · subst h1 h2
      have HX := hd (show decide (compareBytes fv gv < 0) = v by
        rw [← HV.o]; congr 1; simp [LessP])
      go_enter Tryz.func59, Tryz.ntmps59
      go_wp2
      go_ret
      exact ⟨retBB (by rw [HX.o]), twoB _ _ _⟩
    · subst h1
      have n2 : (fl != gl) = true := by simpa using h2
      have HX := hd (show decide (fl < gl) = v by
        rw [← HV.o]; congr 1; simp [LessP, h2])
      clear h2
      go_enter Tryz.func59, Tryz.ntmps59
      go_wp2
      go_ret
      exact ⟨retBB (by rw [HX.o]), twoB _ _ _⟩
  · have n1 : (fk != gk) = true := by simpa using h1
    have HX := hd (show decide (fk < gk) = v by
      rw [← HV.o]; congr 1; simp [LessP, h1])
    clear h1
    go_enter Tryz.func59, Tryz.ntmps59
    go_wp2
    go_ret
    exact ⟨retBB (by rw [HX.o]), twoB _ _ _⟩

end Go.Proofs.YtpejlcaoggedfaaGreatDoor
