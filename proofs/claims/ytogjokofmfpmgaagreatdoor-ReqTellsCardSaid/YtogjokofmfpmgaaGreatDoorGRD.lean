/-
  Requests: fields, kinds, writes.
-/
import Derived.Test.YtogjokofmfpmgaaGreatDoorGAH
import Derived.Test.YtogjokofmfpmgaaGreatDoorGRC
import Derived.Test.YtogjokofmfpmgaaGreatDoorGRA
import Derived.Test.YtogjokofmfpmgaaGreatDoorGRB
import Derived.Test.YtogjokofmfpmgaaGreatDoorProg
import Derived.Laws.ResultCell
import Derived.Test.YtogjokofmfpmgaaGreatDoorGAF
import Derived.Deep.RegionHeld3
import Derived.Test.YtogjokofmfpmgaaGreatDoorGAK
import Derived.Test.YtogjokofmfpmgaaGreatDoorGAA
import Derived.Test.YtogjokofmfpmgaaGreatDoorGAG
import Derived.Test.YtogjokofmfpmgaaGreatDoorGAP
import Derived.Test.YtogjokofmfpmgaaGreatDoorGAJ
set_option linter.unusedVariables false
set_option linter.unusedSimpArgs false
namespace Go.Proofs.YtogjokofmfpmgaaGreatDoor
open Go.RowKit

theorem rwrites_calls (k : Int) (w : World) : Calls Tryz.prog 23 #[.int .i64 k] w fun e w' => e = .returned (.bool (writesK k)) ∧ w = w' := by
  obtain ⟨v, hv⟩ : ∃ v, writesK k = v := ⟨_, rfl⟩
  have h := writes_or k
  rw [hv] at h ⊢
  clear hv
  rcases h with ⟨rfl, rfl⟩ | ⟨rfl, rfl⟩ | ⟨rfl, rfl⟩ | ⟨rfl, rfl⟩ | ⟨rfl, rfl⟩ | ⟨⟨a2, a3, a4, a5, a7⟩, rfl⟩
  all_goals
    go_enter Tryz.func23, Tryz.ntmps23
    go_wp2
    go_ret
    exact ⟨rfl, rfl⟩

end Go.Proofs.YtogjokofmfpmgaaGreatDoor
namespace Go.Proofs.YtogjokofmfpmgaaGreatDoor
open Go.RowKit

def wordsC : Array Value := #[.string ⟨#[]⟩, .string ⟨#[110, 97, 109, 101]⟩, .string ⟨#[111, 114, 103]⟩, .string ⟨#[116, 101, 108]⟩, .string ⟨#[109, 97, 105, 108]⟩, .string ⟨#[100, 97, 121]⟩, .string ⟨#[110, 111, 116, 101]⟩]
def labelsC : Array Value := #[.string ⟨#[]⟩, .string ⟨#[59, 104, 111, 109, 101]⟩, .string ⟨#[59, 119, 111, 114, 107]⟩, .string ⟨#[59, 99, 101, 108, 108]⟩]
theorem words_at (j : Nat) (h : j < 7) : wordsC[j]? = some (.string (bs (kindL j))) := by
  match j, h with
  | 0, _ => rfl
  | 1, _ => rfl
  | 2, _ => rfl
  | 3, _ => rfl
  | 4, _ => rfl
  | 5, _ => rfl
  | 6, _ => rfl
theorem labels_at (j : Nat) (h : j < 4) : labelsC[j]? = some (.string (bs (labL j))) := by
  match j, h with
  | 0, _ => rfl
  | 1, _ => rfl
  | 2, _ => rfl
  | 3, _ => rfl
theorem words_calls (w : World) : Calls Tryz.prog 107 #[] w fun e w' => e = .returned (.slice (some ⟨w.heap.size, 0, none⟩) 7 7) ∧ w.alloc (.cells wordsC 9) = w' := by
  go_enter Tryz.func107, Tryz.ntmps107
  go_wp2
  go_ret
  exact ⟨rfl, rfl⟩
theorem labels_calls (w : World) : Calls Tryz.prog 108 #[] w fun e w' => e = .returned (.slice (some ⟨w.heap.size, 0, none⟩) 4 4) ∧ w.alloc (.cells labelsC 9) = w' := by
  go_enter Tryz.func108, Tryz.ntmps108
  go_wp2
  go_ret
  exact ⟨rfl, rfl⟩

end Go.Proofs.YtogjokofmfpmgaaGreatDoor
namespace Go.Proofs.YtogjokofmfpmgaaGreatDoor
open Go.RowKit Go.Lib

set_option maxHeartbeats 1000000 in
theorem crmay_calls (w : World) (ck cv : Int) : Calls Tryz.prog 72 #[.agg #[.int .i64 ck, .int .i64 cv]] w fun e w' => e = .returned (.bool (mayP ck cv)) ∧ Below w.heap.size w w' := by
  have HV : Hd (∃ b, b = mayP ck cv) := hd ⟨_, rfl⟩
  have hb := hd ((Below.refl w.heap.size w).alloc (Nat.le_refl _) (.cells #[.int .i64 ck, .int .i64 cv] 23))
  by_cases c0 : ck = 0
  · subst c0
    go_enter Tryz.func72, Tryz.ntmps72
    go_wp2
    go_ret
    exact ⟨rfl, hb.o⟩
  · by_cases c1 : ck = 1
    · subst c1
      go_enter Tryz.func72, Tryz.ntmps72
      go_wp2
      go_ret
      exact ⟨rfl, hb.o⟩
    · by_cases c2 : ck = 2
      · subst c2
        go_enter Tryz.func72, Tryz.ntmps72
        go_wp2
        go_ret
        exact ⟨rfl, hb.o⟩
      · by_cases c3 : ck = 3
        · subst c3
          go_enter Tryz.func72, Tryz.ntmps72
          go_wp2
          go_ret
          exact ⟨rfl, hb.o⟩
        · have e0 : (ck == 0) = false := by simpa using c0
          have e1 : (ck == 1) = false := by simpa using c1
          have e2 : (ck == 2) = false := by simpa using c2
          have e3 : (ck == 3) = false := by simpa using c3
          have HF : Hd (mayP ck cv = false) := hd (by simp [mayP, c0, c1, c2, c3])
          clear c0 c1 c2 c3
          go_enter Tryz.func72, Tryz.ntmps72
          go_wp2
          go_ret
          exact ⟨ret_bool HF.o.symm, hb.o⟩

end Go.Proofs.YtogjokofmfpmgaaGreatDoor
namespace Go.Proofs.YtogjokofmfpmgaaGreatDoor
open Go.RowKit
def fa : Fld := ⟨1, 0, [65, 110, 110]⟩
end Go.Proofs.YtogjokofmfpmgaaGreatDoor
