/-
  No cell of these rows narrows 'for every input' (looked for: loops, veiled, ifaces, maps, wideKeys, modest, calm, conditions, laid).
  DERIVED. THE GIVEN ROWS OF THIS SEAT. 4 by the template 'for every input the law returns true; each argument reads behind the call as it read before'; 0 by the template 'total and deterministic' (their statements: YtdnmeffglpmlaaaTotals.lean).
  GIVEN WITH THE SEED: the statements are not yours to turn. If you find one false, say at which input.
  Laid BY PROGRAM, IN A SANDBOX (cutbox-rows.mjs): the forced cells as the released guide's own fill.sh prints them over the translation 68137596e732254d… (all of the seat's roots in one cut). By AI agents, Wed Nov 11 2026. No macro, syntax, notation, axiom, sorry.
-/
import Derived.Test.YtdnmeffglpmlaaaChecked
import GoSem.Claim
import GoSem.ClaimJoined
import GoSem.ClaimMapViews
import Derived.JoinedTies
import Derived.KernelRfl
namespace Go.Proofs.Ytdnmeffglpmlaaa
/- THE CELL 'sum', in the pinned program and in every row, IS THE sha256 OF THE DUMP (.gsa) THAT YtdnmeffglpmlaaaProg.lean LOADS. Nothing in Lean hashes anything: it is a label: what it is worth is what the hold of that sum in a sandbox is worth. -/
noncomputable def Try.pinned : Pinned := { name := "ytdnmeffglpmlaaa", sum := "68137596e732254d2c36d659d8afa11354618b42b7b05e0d77ba9b68cc1a408c", checked := Try.checked }
namespace Rows
def none {H : Type} : Left H := { results := [], args := [] }

/-- 'henlaw23.ClockPlays': WHATEVER THE INPUT: true; the input reads as it did. -/
def clockPlaysSpec : ChangeSpec := { name := "clockPlays", fn := fun _ => fun
  | [d1, d2] => { results := [.lit (.bool true)], args := [d1, d2] }
  | _ => none }
def clockPlaysRow : OpenClaim := { program := "ytdnmeffglpmlaaa", sum := "68137596e732254d2c36d659d8afa11354618b42b7b05e0d77ba9b68cc1a408c", func := "henhouse/henlaw23.ClockPlays", spec := "clockPlays", unfollowed := true, recurses := true, apart := false }
def ClockPlaysSaid : Prop := clockPlaysRow.holds Try.pinned (OpenSpec.ofChange clockPlaysSpec)

/-- ITS FALSE NEIGHBOUR: 'it returns false'. Refute it at one input. -/
def clockPlaysWrong : ChangeSpec := { name := "clockPlays", fn := fun _ => fun
  | [d1, d2] => { results := [.lit (.bool false)], args := [d1, d2] }
  | _ => none }
def ClockPlaysWrongFalsely : Prop := clockPlaysRow.holds Try.pinned (OpenSpec.ofChange clockPlaysWrong)

/-- 'henlaw23.ClockTicks': WHATEVER THE INPUT: true; the input reads as it did. -/
def clockTicksSpec : ChangeSpec := { name := "clockTicks", fn := fun _ => fun
  | [d] => { results := [.lit (.bool true)], args := [d] }
  | _ => none }
def clockTicksRow : OpenClaim := { program := "ytdnmeffglpmlaaa", sum := "68137596e732254d2c36d659d8afa11354618b42b7b05e0d77ba9b68cc1a408c", func := "henhouse/henlaw23.ClockTicks", spec := "clockTicks", unfollowed := true, recurses := true, apart := false }
def ClockTicksSaid : Prop := clockTicksRow.holds Try.pinned (OpenSpec.ofChange clockTicksSpec)

/-- ITS FALSE NEIGHBOUR: 'it returns false'. Refute it at one input. -/
def clockTicksWrong : ChangeSpec := { name := "clockTicks", fn := fun _ => fun
  | [d] => { results := [.lit (.bool false)], args := [d] }
  | _ => none }
def ClockTicksWrongFalsely : Prop := clockTicksRow.holds Try.pinned (OpenSpec.ofChange clockTicksWrong)

/-- 'henlaw23.ClockDue': WHATEVER THE INPUT: true; the input reads as it did. -/
def clockDueSpec : ChangeSpec := { name := "clockDue", fn := fun _ => fun
  | [d] => { results := [.lit (.bool true)], args := [d] }
  | _ => none }
def clockDueRow : OpenClaim := { program := "ytdnmeffglpmlaaa", sum := "68137596e732254d2c36d659d8afa11354618b42b7b05e0d77ba9b68cc1a408c", func := "henhouse/henlaw23.ClockDue", spec := "clockDue", unfollowed := true, recurses := true, apart := false }
def ClockDueSaid : Prop := clockDueRow.holds Try.pinned (OpenSpec.ofChange clockDueSpec)

/-- ITS FALSE NEIGHBOUR: 'it returns false'. Refute it at one input. -/
def clockDueWrong : ChangeSpec := { name := "clockDue", fn := fun _ => fun
  | [d] => { results := [.lit (.bool false)], args := [d] }
  | _ => none }
def ClockDueWrongFalsely : Prop := clockDueRow.holds Try.pinned (OpenSpec.ofChange clockDueWrong)

/-- 'henlaw23.ClockStays': WHATEVER THE INPUT: true; the input reads as it did. -/
def clockStaysSpec : ChangeSpec := { name := "clockStays", fn := fun _ => fun
  | [d1, d2, d3, d4] => { results := [.lit (.bool true)], args := [d1, d2, d3, d4] }
  | _ => none }
def clockStaysRow : OpenClaim := { program := "ytdnmeffglpmlaaa", sum := "68137596e732254d2c36d659d8afa11354618b42b7b05e0d77ba9b68cc1a408c", func := "henhouse/henlaw23.ClockStays", spec := "clockStays", unfollowed := true, recurses := true, apart := false }
def ClockStaysSaid : Prop := clockStaysRow.holds Try.pinned (OpenSpec.ofChange clockStaysSpec)

/-- ITS FALSE NEIGHBOUR: 'it returns false'. Refute it at one input. -/
def clockStaysWrong : ChangeSpec := { name := "clockStays", fn := fun _ => fun
  | [d1, d2, d3, d4] => { results := [.lit (.bool false)], args := [d1, d2, d3, d4] }
  | _ => none }
def ClockStaysWrongFalsely : Prop := clockStaysRow.holds Try.pinned (OpenSpec.ofChange clockStaysWrong)

/- THE SECOND FORM. 'bulk': how many values and letters a reading holds, each counted each time it is reached (what is shared counts as often as it is met; a slice's spare places count too). A statement '..UptoSaid' is the law's where the arguments, and the package variables that the reading takes, are together of bulk at most 1048576: NARROWER than '..Said'. Prove '..Said' where nothing that the law and all that it calls make is longer than what came in: it says more and counts as full. Else prove '..UptoSaid'. A law counts once. -/
mutual
def uptoBulk {H : Type} : DataW H → Nat
  | .lit (.string bytes) => bytes.length + 1
  | .lit _ => 1
  | .nil => 1
  | .ptr d => uptoBulk d + 1
  | .slice elems spare => uptoBulkAll elems + uptoBulkAll spare + 1
  | .agg parts => uptoBulkAll parts + 1
  | .iface _ d => uptoBulk d + 1
  | .map entries => uptoBulkEntries entries + 1
  | .held _ => 1
def uptoBulkAll {H : Type} : List (DataW H) → Nat
  | [] => 0
  | d :: r => uptoBulk d + uptoBulkAll r
def uptoBulkEntries {H : Type} : List (Lit × DataW H) → Nat
  | [] => 0
  | x :: r => uptoBulkEntry x + uptoBulkEntries r
def uptoBulkEntry {H : Type} : Lit × DataW H → Nat
  | (.string bytes, d) => bytes.length + uptoBulk d + 1
  | (_, d) => uptoBulk d + 1
 end
def uptoSmall : (H : Type) → List (DataW H) → Bool := fun _ ds => decide (uptoBulkAll ds ≤ 1048576)
def OpenSpec.upto (s : _root_.Go.ChangeSpec) : _root_.Go.OpenSpec := { _root_.Go.OpenSpec.ofChange s with cond := some uptoSmall }

/-- 'henlaw23.ClockPlays', WHERE WHAT IT READS IS OF BULK AT MOST 1048576: true; the input reads as it did. -/
def clockPlaysUptoRow : OpenClaim := { program := "ytdnmeffglpmlaaa", sum := "68137596e732254d2c36d659d8afa11354618b42b7b05e0d77ba9b68cc1a408c", func := "henhouse/henlaw23.ClockPlays", spec := "clockPlays", unfollowed := true, recurses := true, apart := false, narrowed := true }
def ClockPlaysUptoSaid : Prop := clockPlaysUptoRow.holds Try.pinned (OpenSpec.upto clockPlaysSpec)

/-- 'henlaw23.ClockTicks', WHERE WHAT IT READS IS OF BULK AT MOST 1048576: true; the input reads as it did. -/
def clockTicksUptoRow : OpenClaim := { program := "ytdnmeffglpmlaaa", sum := "68137596e732254d2c36d659d8afa11354618b42b7b05e0d77ba9b68cc1a408c", func := "henhouse/henlaw23.ClockTicks", spec := "clockTicks", unfollowed := true, recurses := true, apart := false, narrowed := true }
def ClockTicksUptoSaid : Prop := clockTicksUptoRow.holds Try.pinned (OpenSpec.upto clockTicksSpec)

/-- 'henlaw23.ClockDue', WHERE WHAT IT READS IS OF BULK AT MOST 1048576: true; the input reads as it did. -/
def clockDueUptoRow : OpenClaim := { program := "ytdnmeffglpmlaaa", sum := "68137596e732254d2c36d659d8afa11354618b42b7b05e0d77ba9b68cc1a408c", func := "henhouse/henlaw23.ClockDue", spec := "clockDue", unfollowed := true, recurses := true, apart := false, narrowed := true }
def ClockDueUptoSaid : Prop := clockDueUptoRow.holds Try.pinned (OpenSpec.upto clockDueSpec)

/-- 'henlaw23.ClockStays', WHERE WHAT IT READS IS OF BULK AT MOST 1048576: true; the input reads as it did. -/
def clockStaysUptoRow : OpenClaim := { program := "ytdnmeffglpmlaaa", sum := "68137596e732254d2c36d659d8afa11354618b42b7b05e0d77ba9b68cc1a408c", func := "henhouse/henlaw23.ClockStays", spec := "clockStays", unfollowed := true, recurses := true, apart := false, narrowed := true }
def ClockStaysUptoSaid : Prop := clockStaysUptoRow.holds Try.pinned (OpenSpec.upto clockStaysSpec)

end Rows
end Go.Proofs.Ytdnmeffglpmlaaa
