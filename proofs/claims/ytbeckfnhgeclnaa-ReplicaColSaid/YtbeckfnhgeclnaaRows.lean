/-
  No cell of these rows narrows 'for every input' (looked for: loops, veiled, ifaces, maps, wideKeys, modest, calm, conditions, laid).
  DERIVED. THE GIVEN ROWS OF THIS SEAT. 14 by the template 'for every input the law returns true; each argument reads behind the call as it read before'; 0 by the template 'total and deterministic' (their statements: YtbeckfnhgeclnaaTotals.lean).
  GIVEN WITH THE SEED: the statements are not yours to turn. If you find one false, say at which input.
  Laid BY PROGRAM, IN A SANDBOX (cutbox-rows.mjs): the forced cells as the released guide's own fill.sh prints them over the translation 2d1f20205b23350d… (all of the seat's roots in one cut). By AI agents, Wed Nov 11 2026. No macro, syntax, notation, axiom, sorry.
-/
import Derived.Test.YtbeckfnhgeclnaaChecked
import GoSem.Claim
import GoSem.ClaimJoined
import GoSem.ClaimMapViews
import Derived.JoinedTies
import Derived.KernelRfl
namespace Go.Proofs.Ytbeckfnhgeclnaa
/- THE CELL 'sum', in the pinned program and in every row, IS THE sha256 OF THE DUMP (.gsa) THAT YtbeckfnhgeclnaaProg.lean LOADS. Nothing in Lean hashes anything: it is a label: what it is worth is what the hold of that sum in a sandbox is worth. -/
noncomputable def Try.pinned : Pinned := { name := "ytbeckfnhgeclnaa", sum := "2d1f20205b23350d2b996743e2bf63d12f27dbaf1c3c20188f6f0140b0b0f5aa", checked := Try.checked }
namespace Rows
def none {H : Type} : Left H := { results := [], args := [] }

/-- 'henlaw18.ReplicaPlays': WHATEVER THE INPUT: true; the input reads as it did. -/
def replicaPlaysSpec : ChangeSpec := { name := "replicaPlays", fn := fun _ => fun
  | [d] => { results := [.lit (.bool true)], args := [d] }
  | _ => none }
def replicaPlaysRow : OpenClaim := { program := "ytbeckfnhgeclnaa", sum := "2d1f20205b23350d2b996743e2bf63d12f27dbaf1c3c20188f6f0140b0b0f5aa", func := "henhouse/henlaw18.ReplicaPlays", spec := "replicaPlays", inPlace := ["internal/bytealg.abigen_runtime_cmpstring", "slices.overlaps[henhouse/omap.entry[henhouse/api.Item]]"], unfollowed := true, recurses := true, apart := false }
def ReplicaPlaysSaid : Prop := replicaPlaysRow.holds Try.pinned (OpenSpec.ofChange replicaPlaysSpec)

/-- ITS FALSE NEIGHBOUR: 'it returns false'. Refute it at one input. -/
def replicaPlaysWrong : ChangeSpec := { name := "replicaPlays", fn := fun _ => fun
  | [d] => { results := [.lit (.bool false)], args := [d] }
  | _ => none }
def ReplicaPlaysWrongFalsely : Prop := replicaPlaysRow.holds Try.pinned (OpenSpec.ofChange replicaPlaysWrong)

/-- 'henlaw18.ReplicaKeeps': WHATEVER THE INPUT: true; the input reads as it did. -/
def replicaKeepsSpec : ChangeSpec := { name := "replicaKeeps", fn := fun _ => fun
  | [d] => { results := [.lit (.bool true)], args := [d] }
  | _ => none }
def replicaKeepsRow : OpenClaim := { program := "ytbeckfnhgeclnaa", sum := "2d1f20205b23350d2b996743e2bf63d12f27dbaf1c3c20188f6f0140b0b0f5aa", func := "henhouse/henlaw18.ReplicaKeeps", spec := "replicaKeeps", inPlace := ["internal/bytealg.abigen_runtime_cmpstring", "slices.overlaps[henhouse/omap.entry[henhouse/api.Item]]"], unfollowed := true, recurses := true, apart := false }
def ReplicaKeepsSaid : Prop := replicaKeepsRow.holds Try.pinned (OpenSpec.ofChange replicaKeepsSpec)

/-- ITS FALSE NEIGHBOUR: 'it returns false'. Refute it at one input. -/
def replicaKeepsWrong : ChangeSpec := { name := "replicaKeeps", fn := fun _ => fun
  | [d] => { results := [.lit (.bool false)], args := [d] }
  | _ => none }
def ReplicaKeepsWrongFalsely : Prop := replicaKeepsRow.holds Try.pinned (OpenSpec.ofChange replicaKeepsWrong)

/-- 'henlaw18.ReplicaTurned': WHATEVER THE INPUT: true; the input reads as it did. -/
def replicaTurnedSpec : ChangeSpec := { name := "replicaTurned", fn := fun _ => fun
  | [d1, d2] => { results := [.lit (.bool true)], args := [d1, d2] }
  | _ => none }
def replicaTurnedRow : OpenClaim := { program := "ytbeckfnhgeclnaa", sum := "2d1f20205b23350d2b996743e2bf63d12f27dbaf1c3c20188f6f0140b0b0f5aa", func := "henhouse/henlaw18.ReplicaTurned", spec := "replicaTurned", inPlace := ["internal/bytealg.abigen_runtime_cmpstring", "slices.overlaps[henhouse/omap.entry[henhouse/api.Item]]"], unfollowed := true, recurses := true, apart := false }
def ReplicaTurnedSaid : Prop := replicaTurnedRow.holds Try.pinned (OpenSpec.ofChange replicaTurnedSpec)

/-- ITS FALSE NEIGHBOUR: 'it returns false'. Refute it at one input. -/
def replicaTurnedWrong : ChangeSpec := { name := "replicaTurned", fn := fun _ => fun
  | [d1, d2] => { results := [.lit (.bool false)], args := [d1, d2] }
  | _ => none }
def ReplicaTurnedWrongFalsely : Prop := replicaTurnedRow.holds Try.pinned (OpenSpec.ofChange replicaTurnedWrong)

/-- 'henlaw18.ReplicaCut': WHATEVER THE INPUT: true; the input reads as it did. -/
def replicaCutSpec : ChangeSpec := { name := "replicaCut", fn := fun _ => fun
  | [d1, d2, d3] => { results := [.lit (.bool true)], args := [d1, d2, d3] }
  | _ => none }
def replicaCutRow : OpenClaim := { program := "ytbeckfnhgeclnaa", sum := "2d1f20205b23350d2b996743e2bf63d12f27dbaf1c3c20188f6f0140b0b0f5aa", func := "henhouse/henlaw18.ReplicaCut", spec := "replicaCut", inPlace := ["internal/bytealg.abigen_runtime_cmpstring", "slices.overlaps[henhouse/omap.entry[henhouse/api.Item]]"], unfollowed := true, recurses := true, apart := false }
def ReplicaCutSaid : Prop := replicaCutRow.holds Try.pinned (OpenSpec.ofChange replicaCutSpec)

/-- ITS FALSE NEIGHBOUR: 'it returns false'. Refute it at one input. -/
def replicaCutWrong : ChangeSpec := { name := "replicaCut", fn := fun _ => fun
  | [d1, d2, d3] => { results := [.lit (.bool false)], args := [d1, d2, d3] }
  | _ => none }
def ReplicaCutWrongFalsely : Prop := replicaCutRow.holds Try.pinned (OpenSpec.ofChange replicaCutWrong)

/-- 'henlaw17.ColSince': WHATEVER THE INPUT: true; the input reads as it did. -/
def colSinceSpec : ChangeSpec := { name := "colSince", fn := fun _ => fun
  | [d1, d2, d3, d4, d5] => { results := [.lit (.bool true)], args := [d1, d2, d3, d4, d5] }
  | _ => none }
def colSinceRow : OpenClaim := { program := "ytbeckfnhgeclnaa", sum := "2d1f20205b23350d2b996743e2bf63d12f27dbaf1c3c20188f6f0140b0b0f5aa", func := "henhouse/henlaw17.ColSince", spec := "colSince", inPlace := ["internal/bytealg.abigen_runtime_cmpstring", "slices.overlaps[henhouse/omap.entry[henhouse/col.entry]]"], unfollowed := true, recurses := true, apart := false }
def ColSinceSaid : Prop := colSinceRow.holds Try.pinned (OpenSpec.ofChange colSinceSpec)

/-- ITS FALSE NEIGHBOUR: 'it returns false'. Refute it at one input. -/
def colSinceWrong : ChangeSpec := { name := "colSince", fn := fun _ => fun
  | [d1, d2, d3, d4, d5] => { results := [.lit (.bool false)], args := [d1, d2, d3, d4, d5] }
  | _ => none }
def ColSinceWrongFalsely : Prop := colSinceRow.holds Try.pinned (OpenSpec.ofChange colSinceWrong)

/-- 'henlaw17.ColKnows': WHATEVER THE INPUT: true; the input reads as it did. -/
def colKnowsSpec : ChangeSpec := { name := "colKnows", fn := fun _ => fun
  | [d1, d2, d3, d4, d5] => { results := [.lit (.bool true)], args := [d1, d2, d3, d4, d5] }
  | _ => none }
def colKnowsRow : OpenClaim := { program := "ytbeckfnhgeclnaa", sum := "2d1f20205b23350d2b996743e2bf63d12f27dbaf1c3c20188f6f0140b0b0f5aa", func := "henhouse/henlaw17.ColKnows", spec := "colKnows", inPlace := ["internal/bytealg.abigen_runtime_cmpstring", "slices.overlaps[henhouse/omap.entry[henhouse/col.entry]]"], unfollowed := true, recurses := true, apart := false }
def ColKnowsSaid : Prop := colKnowsRow.holds Try.pinned (OpenSpec.ofChange colKnowsSpec)

/-- ITS FALSE NEIGHBOUR: 'it returns false'. Refute it at one input. -/
def colKnowsWrong : ChangeSpec := { name := "colKnows", fn := fun _ => fun
  | [d1, d2, d3, d4, d5] => { results := [.lit (.bool false)], args := [d1, d2, d3, d4, d5] }
  | _ => none }
def ColKnowsWrongFalsely : Prop := colKnowsRow.holds Try.pinned (OpenSpec.ofChange colKnowsWrong)

/-- 'henlaw17.ColNew': WHATEVER THE INPUT: true; the input reads as it did. -/
def colNewSpec : ChangeSpec := { name := "colNew", fn := fun _ => fun
  | [d1, d2, d3, d4, d5] => { results := [.lit (.bool true)], args := [d1, d2, d3, d4, d5] }
  | _ => none }
def colNewRow : OpenClaim := { program := "ytbeckfnhgeclnaa", sum := "2d1f20205b23350d2b996743e2bf63d12f27dbaf1c3c20188f6f0140b0b0f5aa", func := "henhouse/henlaw17.ColNew", spec := "colNew", inPlace := ["internal/bytealg.abigen_runtime_cmpstring", "slices.overlaps[henhouse/omap.entry[henhouse/col.entry]]"], unfollowed := true, recurses := true, apart := false }
def ColNewSaid : Prop := colNewRow.holds Try.pinned (OpenSpec.ofChange colNewSpec)

/-- ITS FALSE NEIGHBOUR: 'it returns false'. Refute it at one input. -/
def colNewWrong : ChangeSpec := { name := "colNew", fn := fun _ => fun
  | [d1, d2, d3, d4, d5] => { results := [.lit (.bool false)], args := [d1, d2, d3, d4, d5] }
  | _ => none }
def ColNewWrongFalsely : Prop := colNewRow.holds Try.pinned (OpenSpec.ofChange colNewWrong)

/-- 'henlaw17.ColPlays': WHATEVER THE INPUT: true; the input reads as it did. -/
def colPlaysSpec : ChangeSpec := { name := "colPlays", fn := fun _ => fun
  | [d1, d2, d3, d4] => { results := [.lit (.bool true)], args := [d1, d2, d3, d4] }
  | _ => none }
def colPlaysRow : OpenClaim := { program := "ytbeckfnhgeclnaa", sum := "2d1f20205b23350d2b996743e2bf63d12f27dbaf1c3c20188f6f0140b0b0f5aa", func := "henhouse/henlaw17.ColPlays", spec := "colPlays", inPlace := ["internal/bytealg.abigen_runtime_cmpstring", "slices.overlaps[henhouse/omap.entry[henhouse/col.entry]]"], unfollowed := true, recurses := true, apart := false }
def ColPlaysSaid : Prop := colPlaysRow.holds Try.pinned (OpenSpec.ofChange colPlaysSpec)

/-- ITS FALSE NEIGHBOUR: 'it returns false'. Refute it at one input. -/
def colPlaysWrong : ChangeSpec := { name := "colPlays", fn := fun _ => fun
  | [d1, d2, d3, d4] => { results := [.lit (.bool false)], args := [d1, d2, d3, d4] }
  | _ => none }
def ColPlaysWrongFalsely : Prop := colPlaysRow.holds Try.pinned (OpenSpec.ofChange colPlaysWrong)

/-- 'henlaw17.ColSplits': WHATEVER THE INPUT: true; the input reads as it did. -/
def colSplitsSpec : ChangeSpec := { name := "colSplits", fn := fun _ => fun
  | [d1, d2] => { results := [.lit (.bool true)], args := [d1, d2] }
  | _ => none }
def colSplitsRow : OpenClaim := { program := "ytbeckfnhgeclnaa", sum := "2d1f20205b23350d2b996743e2bf63d12f27dbaf1c3c20188f6f0140b0b0f5aa", func := "henhouse/henlaw17.ColSplits", spec := "colSplits", inPlace := ["internal/bytealg.abigen_runtime_cmpstring", "slices.overlaps[henhouse/omap.entry[henhouse/col.entry]]"], unfollowed := true, recurses := true, apart := false }
def ColSplitsSaid : Prop := colSplitsRow.holds Try.pinned (OpenSpec.ofChange colSplitsSpec)

/-- ITS FALSE NEIGHBOUR: 'it returns false'. Refute it at one input. -/
def colSplitsWrong : ChangeSpec := { name := "colSplits", fn := fun _ => fun
  | [d1, d2] => { results := [.lit (.bool false)], args := [d1, d2] }
  | _ => none }
def ColSplitsWrongFalsely : Prop := colSplitsRow.holds Try.pinned (OpenSpec.ofChange colSplitsWrong)

/-- 'henlaw17.ColPages': WHATEVER THE INPUT: true; the input reads as it did. -/
def colPagesSpec : ChangeSpec := { name := "colPages", fn := fun _ => fun
  | [d1, d2, d3, d4, d5, d6] => { results := [.lit (.bool true)], args := [d1, d2, d3, d4, d5, d6] }
  | _ => none }
def colPagesRow : OpenClaim := { program := "ytbeckfnhgeclnaa", sum := "2d1f20205b23350d2b996743e2bf63d12f27dbaf1c3c20188f6f0140b0b0f5aa", func := "henhouse/henlaw17.ColPages", spec := "colPages", inPlace := ["internal/bytealg.abigen_runtime_cmpstring", "slices.overlaps[henhouse/omap.entry[henhouse/col.entry]]"], unfollowed := true, recurses := true, apart := false }
def ColPagesSaid : Prop := colPagesRow.holds Try.pinned (OpenSpec.ofChange colPagesSpec)

/-- ITS FALSE NEIGHBOUR: 'it returns false'. Refute it at one input. -/
def colPagesWrong : ChangeSpec := { name := "colPages", fn := fun _ => fun
  | [d1, d2, d3, d4, d5, d6] => { results := [.lit (.bool false)], args := [d1, d2, d3, d4, d5, d6] }
  | _ => none }
def ColPagesWrongFalsely : Prop := colPagesRow.holds Try.pinned (OpenSpec.ofChange colPagesWrong)

/-- 'henlaw17.ColFolds': WHATEVER THE INPUT: true; the input reads as it did. -/
def colFoldsSpec : ChangeSpec := { name := "colFolds", fn := fun _ => fun
  | [d1, d2, d3, d4, d5, d6] => { results := [.lit (.bool true)], args := [d1, d2, d3, d4, d5, d6] }
  | _ => none }
def colFoldsRow : OpenClaim := { program := "ytbeckfnhgeclnaa", sum := "2d1f20205b23350d2b996743e2bf63d12f27dbaf1c3c20188f6f0140b0b0f5aa", func := "henhouse/henlaw17.ColFolds", spec := "colFolds", inPlace := ["internal/bytealg.abigen_runtime_cmpstring", "slices.overlaps[henhouse/omap.entry[henhouse/col.entry]]"], unfollowed := true, recurses := true, apart := false }
def ColFoldsSaid : Prop := colFoldsRow.holds Try.pinned (OpenSpec.ofChange colFoldsSpec)

/-- ITS FALSE NEIGHBOUR: 'it returns false'. Refute it at one input. -/
def colFoldsWrong : ChangeSpec := { name := "colFolds", fn := fun _ => fun
  | [d1, d2, d3, d4, d5, d6] => { results := [.lit (.bool false)], args := [d1, d2, d3, d4, d5, d6] }
  | _ => none }
def ColFoldsWrongFalsely : Prop := colFoldsRow.holds Try.pinned (OpenSpec.ofChange colFoldsWrong)

/-- 'henlaw17.ColChecks': WHATEVER THE INPUT: true; the input reads as it did. -/
def colChecksSpec : ChangeSpec := { name := "colChecks", fn := fun _ => fun
  | [d1, d2, d3, d4, d5, d6] => { results := [.lit (.bool true)], args := [d1, d2, d3, d4, d5, d6] }
  | _ => none }
def colChecksRow : OpenClaim := { program := "ytbeckfnhgeclnaa", sum := "2d1f20205b23350d2b996743e2bf63d12f27dbaf1c3c20188f6f0140b0b0f5aa", func := "henhouse/henlaw17.ColChecks", spec := "colChecks", inPlace := ["internal/bytealg.abigen_runtime_cmpstring", "slices.overlaps[henhouse/omap.entry[henhouse/col.entry]]"], unfollowed := true, recurses := true, apart := false }
def ColChecksSaid : Prop := colChecksRow.holds Try.pinned (OpenSpec.ofChange colChecksSpec)

/-- ITS FALSE NEIGHBOUR: 'it returns false'. Refute it at one input. -/
def colChecksWrong : ChangeSpec := { name := "colChecks", fn := fun _ => fun
  | [d1, d2, d3, d4, d5, d6] => { results := [.lit (.bool false)], args := [d1, d2, d3, d4, d5, d6] }
  | _ => none }
def ColChecksWrongFalsely : Prop := colChecksRow.holds Try.pinned (OpenSpec.ofChange colChecksWrong)

/-- 'henlaw17.ColRight': WHATEVER THE INPUT: true; the input reads as it did. -/
def colRightSpec : ChangeSpec := { name := "colRight", fn := fun _ => fun
  | [d1, d2, d3, d4, d5, d6] => { results := [.lit (.bool true)], args := [d1, d2, d3, d4, d5, d6] }
  | _ => none }
def colRightRow : OpenClaim := { program := "ytbeckfnhgeclnaa", sum := "2d1f20205b23350d2b996743e2bf63d12f27dbaf1c3c20188f6f0140b0b0f5aa", func := "henhouse/henlaw17.ColRight", spec := "colRight", inPlace := ["internal/bytealg.abigen_runtime_cmpstring", "slices.overlaps[henhouse/omap.entry[henhouse/col.entry]]"], unfollowed := true, recurses := true, apart := false }
def ColRightSaid : Prop := colRightRow.holds Try.pinned (OpenSpec.ofChange colRightSpec)

/-- ITS FALSE NEIGHBOUR: 'it returns false'. Refute it at one input. -/
def colRightWrong : ChangeSpec := { name := "colRight", fn := fun _ => fun
  | [d1, d2, d3, d4, d5, d6] => { results := [.lit (.bool false)], args := [d1, d2, d3, d4, d5, d6] }
  | _ => none }
def ColRightWrongFalsely : Prop := colRightRow.holds Try.pinned (OpenSpec.ofChange colRightWrong)

/-- 'henlaw18.ReplicaCol': WHATEVER THE INPUT: true; the input reads as it did. -/
def replicaColSpec : ChangeSpec := { name := "replicaCol", fn := fun _ => fun
  | [d1, d2, d3, d4, d5] => { results := [.lit (.bool true)], args := [d1, d2, d3, d4, d5] }
  | _ => none }
def replicaColRow : OpenClaim := { program := "ytbeckfnhgeclnaa", sum := "2d1f20205b23350d2b996743e2bf63d12f27dbaf1c3c20188f6f0140b0b0f5aa", func := "henhouse/henlaw18.ReplicaCol", spec := "replicaCol", inPlace := ["internal/bytealg.abigen_runtime_cmpstring", "slices.overlaps[henhouse/omap.entry[henhouse/api.Item]]", "slices.overlaps[henhouse/omap.entry[henhouse/col.entry]]"], unfollowed := true, recurses := true, apart := false }
def ReplicaColSaid : Prop := replicaColRow.holds Try.pinned (OpenSpec.ofChange replicaColSpec)

/-- ITS FALSE NEIGHBOUR: 'it returns false'. Refute it at one input. -/
def replicaColWrong : ChangeSpec := { name := "replicaCol", fn := fun _ => fun
  | [d1, d2, d3, d4, d5] => { results := [.lit (.bool false)], args := [d1, d2, d3, d4, d5] }
  | _ => none }
def ReplicaColWrongFalsely : Prop := replicaColRow.holds Try.pinned (OpenSpec.ofChange replicaColWrong)

/- THE SECOND FORM. 'bulk': how many values and letters a reading holds, each counted each time it is reached (what is shared counts as often as it is met; a slice's spare places count too). A statement '..UptoSaid' is the law's where the arguments, and the package variables that the reading takes, are together of bulk at most 1048576: NARROWER than '..Said'. Prove '..Said' where nothing that the law and all that it calls make is longer than what came in: it says more and counts as full. Else prove '..UptoSaid'. A law counts once. -/
mutual
def uptoBulk {H : Type} : DataW H → Nat
  | .lit (.string bytes) => bytes.length + 1
  | .lit _ => 1
  | .nil => 1
  | .ptr d => uptoBulk d + 1
  | .slice elems spare => uptoBulkAll elems + uptoBulkAll spare + 1
  | .agg parts => uptoBulkAll parts + 1
  | .iface _ d => uptoBulk d + 1
  | .map entries => uptoBulkEntries entries + 1
  | .held _ => 1
def uptoBulkAll {H : Type} : List (DataW H) → Nat
  | [] => 0
  | d :: r => uptoBulk d + uptoBulkAll r
def uptoBulkEntries {H : Type} : List (Lit × DataW H) → Nat
  | [] => 0
  | x :: r => uptoBulkEntry x + uptoBulkEntries r
def uptoBulkEntry {H : Type} : Lit × DataW H → Nat
  | (.string bytes, d) => bytes.length + uptoBulk d + 1
  | (_, d) => uptoBulk d + 1
 end
def uptoSmall : (H : Type) → List (DataW H) → Bool := fun _ ds => decide (uptoBulkAll ds ≤ 1048576)
def OpenSpec.upto (s : _root_.Go.ChangeSpec) : _root_.Go.OpenSpec := { _root_.Go.OpenSpec.ofChange s with cond := some uptoSmall }

/-- 'henlaw18.ReplicaPlays', WHERE WHAT IT READS IS OF BULK AT MOST 1048576: true; the input reads as it did. -/
def replicaPlaysUptoRow : OpenClaim := { program := "ytbeckfnhgeclnaa", sum := "2d1f20205b23350d2b996743e2bf63d12f27dbaf1c3c20188f6f0140b0b0f5aa", func := "henhouse/henlaw18.ReplicaPlays", spec := "replicaPlays", inPlace := ["internal/bytealg.abigen_runtime_cmpstring", "slices.overlaps[henhouse/omap.entry[henhouse/api.Item]]"], unfollowed := true, recurses := true, apart := false, narrowed := true }
def ReplicaPlaysUptoSaid : Prop := replicaPlaysUptoRow.holds Try.pinned (OpenSpec.upto replicaPlaysSpec)

/-- 'henlaw18.ReplicaKeeps', WHERE WHAT IT READS IS OF BULK AT MOST 1048576: true; the input reads as it did. -/
def replicaKeepsUptoRow : OpenClaim := { program := "ytbeckfnhgeclnaa", sum := "2d1f20205b23350d2b996743e2bf63d12f27dbaf1c3c20188f6f0140b0b0f5aa", func := "henhouse/henlaw18.ReplicaKeeps", spec := "replicaKeeps", inPlace := ["internal/bytealg.abigen_runtime_cmpstring", "slices.overlaps[henhouse/omap.entry[henhouse/api.Item]]"], unfollowed := true, recurses := true, apart := false, narrowed := true }
def ReplicaKeepsUptoSaid : Prop := replicaKeepsUptoRow.holds Try.pinned (OpenSpec.upto replicaKeepsSpec)

/-- 'henlaw18.ReplicaTurned', WHERE WHAT IT READS IS OF BULK AT MOST 1048576: true; the input reads as it did. -/
def replicaTurnedUptoRow : OpenClaim := { program := "ytbeckfnhgeclnaa", sum := "2d1f20205b23350d2b996743e2bf63d12f27dbaf1c3c20188f6f0140b0b0f5aa", func := "henhouse/henlaw18.ReplicaTurned", spec := "replicaTurned", inPlace := ["internal/bytealg.abigen_runtime_cmpstring", "slices.overlaps[henhouse/omap.entry[henhouse/api.Item]]"], unfollowed := true, recurses := true, apart := false, narrowed := true }
def ReplicaTurnedUptoSaid : Prop := replicaTurnedUptoRow.holds Try.pinned (OpenSpec.upto replicaTurnedSpec)

/-- 'henlaw18.ReplicaCut', WHERE WHAT IT READS IS OF BULK AT MOST 1048576: true; the input reads as it did. -/
def replicaCutUptoRow : OpenClaim := { program := "ytbeckfnhgeclnaa", sum := "2d1f20205b23350d2b996743e2bf63d12f27dbaf1c3c20188f6f0140b0b0f5aa", func := "henhouse/henlaw18.ReplicaCut", spec := "replicaCut", inPlace := ["internal/bytealg.abigen_runtime_cmpstring", "slices.overlaps[henhouse/omap.entry[henhouse/api.Item]]"], unfollowed := true, recurses := true, apart := false, narrowed := true }
def ReplicaCutUptoSaid : Prop := replicaCutUptoRow.holds Try.pinned (OpenSpec.upto replicaCutSpec)

/-- 'henlaw17.ColSince', WHERE WHAT IT READS IS OF BULK AT MOST 1048576: true; the input reads as it did. -/
def colSinceUptoRow : OpenClaim := { program := "ytbeckfnhgeclnaa", sum := "2d1f20205b23350d2b996743e2bf63d12f27dbaf1c3c20188f6f0140b0b0f5aa", func := "henhouse/henlaw17.ColSince", spec := "colSince", inPlace := ["internal/bytealg.abigen_runtime_cmpstring", "slices.overlaps[henhouse/omap.entry[henhouse/col.entry]]"], unfollowed := true, recurses := true, apart := false, narrowed := true }
def ColSinceUptoSaid : Prop := colSinceUptoRow.holds Try.pinned (OpenSpec.upto colSinceSpec)

/-- 'henlaw17.ColKnows', WHERE WHAT IT READS IS OF BULK AT MOST 1048576: true; the input reads as it did. -/
def colKnowsUptoRow : OpenClaim := { program := "ytbeckfnhgeclnaa", sum := "2d1f20205b23350d2b996743e2bf63d12f27dbaf1c3c20188f6f0140b0b0f5aa", func := "henhouse/henlaw17.ColKnows", spec := "colKnows", inPlace := ["internal/bytealg.abigen_runtime_cmpstring", "slices.overlaps[henhouse/omap.entry[henhouse/col.entry]]"], unfollowed := true, recurses := true, apart := false, narrowed := true }
def ColKnowsUptoSaid : Prop := colKnowsUptoRow.holds Try.pinned (OpenSpec.upto colKnowsSpec)

/-- 'henlaw17.ColNew', WHERE WHAT IT READS IS OF BULK AT MOST 1048576: true; the input reads as it did. -/
def colNewUptoRow : OpenClaim := { program := "ytbeckfnhgeclnaa", sum := "2d1f20205b23350d2b996743e2bf63d12f27dbaf1c3c20188f6f0140b0b0f5aa", func := "henhouse/henlaw17.ColNew", spec := "colNew", inPlace := ["internal/bytealg.abigen_runtime_cmpstring", "slices.overlaps[henhouse/omap.entry[henhouse/col.entry]]"], unfollowed := true, recurses := true, apart := false, narrowed := true }
def ColNewUptoSaid : Prop := colNewUptoRow.holds Try.pinned (OpenSpec.upto colNewSpec)

/-- 'henlaw17.ColPlays', WHERE WHAT IT READS IS OF BULK AT MOST 1048576: true; the input reads as it did. -/
def colPlaysUptoRow : OpenClaim := { program := "ytbeckfnhgeclnaa", sum := "2d1f20205b23350d2b996743e2bf63d12f27dbaf1c3c20188f6f0140b0b0f5aa", func := "henhouse/henlaw17.ColPlays", spec := "colPlays", inPlace := ["internal/bytealg.abigen_runtime_cmpstring", "slices.overlaps[henhouse/omap.entry[henhouse/col.entry]]"], unfollowed := true, recurses := true, apart := false, narrowed := true }
def ColPlaysUptoSaid : Prop := colPlaysUptoRow.holds Try.pinned (OpenSpec.upto colPlaysSpec)

/-- 'henlaw17.ColSplits', WHERE WHAT IT READS IS OF BULK AT MOST 1048576: true; the input reads as it did. -/
def colSplitsUptoRow : OpenClaim := { program := "ytbeckfnhgeclnaa", sum := "2d1f20205b23350d2b996743e2bf63d12f27dbaf1c3c20188f6f0140b0b0f5aa", func := "henhouse/henlaw17.ColSplits", spec := "colSplits", inPlace := ["internal/bytealg.abigen_runtime_cmpstring", "slices.overlaps[henhouse/omap.entry[henhouse/col.entry]]"], unfollowed := true, recurses := true, apart := false, narrowed := true }
def ColSplitsUptoSaid : Prop := colSplitsUptoRow.holds Try.pinned (OpenSpec.upto colSplitsSpec)

/-- 'henlaw17.ColPages', WHERE WHAT IT READS IS OF BULK AT MOST 1048576: true; the input reads as it did. -/
def colPagesUptoRow : OpenClaim := { program := "ytbeckfnhgeclnaa", sum := "2d1f20205b23350d2b996743e2bf63d12f27dbaf1c3c20188f6f0140b0b0f5aa", func := "henhouse/henlaw17.ColPages", spec := "colPages", inPlace := ["internal/bytealg.abigen_runtime_cmpstring", "slices.overlaps[henhouse/omap.entry[henhouse/col.entry]]"], unfollowed := true, recurses := true, apart := false, narrowed := true }
def ColPagesUptoSaid : Prop := colPagesUptoRow.holds Try.pinned (OpenSpec.upto colPagesSpec)

/-- 'henlaw17.ColFolds', WHERE WHAT IT READS IS OF BULK AT MOST 1048576: true; the input reads as it did. -/
def colFoldsUptoRow : OpenClaim := { program := "ytbeckfnhgeclnaa", sum := "2d1f20205b23350d2b996743e2bf63d12f27dbaf1c3c20188f6f0140b0b0f5aa", func := "henhouse/henlaw17.ColFolds", spec := "colFolds", inPlace := ["internal/bytealg.abigen_runtime_cmpstring", "slices.overlaps[henhouse/omap.entry[henhouse/col.entry]]"], unfollowed := true, recurses := true, apart := false, narrowed := true }
def ColFoldsUptoSaid : Prop := colFoldsUptoRow.holds Try.pinned (OpenSpec.upto colFoldsSpec)

/-- 'henlaw17.ColChecks', WHERE WHAT IT READS IS OF BULK AT MOST 1048576: true; the input reads as it did. -/
def colChecksUptoRow : OpenClaim := { program := "ytbeckfnhgeclnaa", sum := "2d1f20205b23350d2b996743e2bf63d12f27dbaf1c3c20188f6f0140b0b0f5aa", func := "henhouse/henlaw17.ColChecks", spec := "colChecks", inPlace := ["internal/bytealg.abigen_runtime_cmpstring", "slices.overlaps[henhouse/omap.entry[henhouse/col.entry]]"], unfollowed := true, recurses := true, apart := false, narrowed := true }
def ColChecksUptoSaid : Prop := colChecksUptoRow.holds Try.pinned (OpenSpec.upto colChecksSpec)

/-- 'henlaw17.ColRight', WHERE WHAT IT READS IS OF BULK AT MOST 1048576: true; the input reads as it did. -/
def colRightUptoRow : OpenClaim := { program := "ytbeckfnhgeclnaa", sum := "2d1f20205b23350d2b996743e2bf63d12f27dbaf1c3c20188f6f0140b0b0f5aa", func := "henhouse/henlaw17.ColRight", spec := "colRight", inPlace := ["internal/bytealg.abigen_runtime_cmpstring", "slices.overlaps[henhouse/omap.entry[henhouse/col.entry]]"], unfollowed := true, recurses := true, apart := false, narrowed := true }
def ColRightUptoSaid : Prop := colRightUptoRow.holds Try.pinned (OpenSpec.upto colRightSpec)

/-- 'henlaw18.ReplicaCol', WHERE WHAT IT READS IS OF BULK AT MOST 1048576: true; the input reads as it did. -/
def replicaColUptoRow : OpenClaim := { program := "ytbeckfnhgeclnaa", sum := "2d1f20205b23350d2b996743e2bf63d12f27dbaf1c3c20188f6f0140b0b0f5aa", func := "henhouse/henlaw18.ReplicaCol", spec := "replicaCol", inPlace := ["internal/bytealg.abigen_runtime_cmpstring", "slices.overlaps[henhouse/omap.entry[henhouse/api.Item]]", "slices.overlaps[henhouse/omap.entry[henhouse/col.entry]]"], unfollowed := true, recurses := true, apart := false, narrowed := true }
def ReplicaColUptoSaid : Prop := replicaColUptoRow.holds Try.pinned (OpenSpec.upto replicaColSpec)

end Rows
end Go.Proofs.Ytbeckfnhgeclnaa
