/-
  No cell of these rows narrows 'for every input' (looked for: loops, veiled, ifaces, maps, wideKeys, modest, calm, conditions, laid).
  DERIVED. THE GIVEN ROWS OF THIS SEAT. 10 by the template 'for every input the law returns true; each argument reads behind the call as it read before'; 0 by the template 'total and deterministic' (their statements: YtmaeeidaegigcaaTotals.lean).
  GIVEN WITH THE SEED: the statements are not yours to turn. If you find one false, say at which input.
  Laid BY PROGRAM, IN A SANDBOX (cutbox-rows.mjs): the forced cells as the released guide's own fill.sh prints them over the translation 09d4b2b7a3700f3f… (all of the seat's roots in one cut). By AI agents, Wed Nov 11 2026. No macro, syntax, notation, axiom, sorry.
-/
import Derived.Test.YtmaeeidaegigcaaChecked
import GoSem.Claim
import GoSem.ClaimJoined
import GoSem.ClaimMapViews
import Derived.JoinedTies
import Derived.KernelRfl
namespace Go.Proofs.Ytmaeeidaegigcaa
/- THE CELL 'sum', in the pinned program and in every row, IS THE sha256 OF THE DUMP (.gsa) THAT YtmaeeidaegigcaaProg.lean LOADS. Nothing in Lean hashes anything: it is a label: what it is worth is what the hold of that sum in a sandbox is worth. -/
noncomputable def Try.pinned : Pinned := { name := "ytmaeeidaegigcaa", sum := "09d4b2b7a3700f3ff4ea9aa7ca67fcfe1a5cc35fd10a75fef5a2bbdedc282739", checked := Try.checked }
namespace Rows
def none {H : Type} : Left H := { results := [], args := [] }

/-- 'stemkeep5.DiskReadReturnsLatestWrite': WHATEVER THE INPUT: true; the input reads as it did. -/
def diskReadReturnsLatestWriteSpec : ChangeSpec := { name := "diskReadReturnsLatestWrite", fn := fun _ => fun
  | [d] => { results := [.lit (.bool true)], args := [d] }
  | _ => none }
def diskReadReturnsLatestWriteRow : OpenClaim := { program := "ytmaeeidaegigcaa", sum := "09d4b2b7a3700f3ff4ea9aa7ca67fcfe1a5cc35fd10a75fef5a2bbdedc282739", func := "stemma/stemkeep5.DiskReadReturnsLatestWrite", spec := "diskReadReturnsLatestWrite", unfollowed := true, recurses := true, apart := false }
def DiskReadReturnsLatestWriteSaid : Prop := diskReadReturnsLatestWriteRow.holds Try.pinned (OpenSpec.ofChange diskReadReturnsLatestWriteSpec)

/-- ITS FALSE NEIGHBOUR: 'it returns false'. Refute it at one input. -/
def diskReadReturnsLatestWriteWrong : ChangeSpec := { name := "diskReadReturnsLatestWrite", fn := fun _ => fun
  | [d] => { results := [.lit (.bool false)], args := [d] }
  | _ => none }
def DiskReadReturnsLatestWriteWrongFalsely : Prop := diskReadReturnsLatestWriteRow.holds Try.pinned (OpenSpec.ofChange diskReadReturnsLatestWriteWrong)

/-- 'stemkeep5.DiskFlushedDataSurvives': WHATEVER THE INPUT: true; the input reads as it did. -/
def diskFlushedDataSurvivesSpec : ChangeSpec := { name := "diskFlushedDataSurvives", fn := fun _ => fun
  | [d1, d2] => { results := [.lit (.bool true)], args := [d1, d2] }
  | _ => none }
def diskFlushedDataSurvivesRow : OpenClaim := { program := "ytmaeeidaegigcaa", sum := "09d4b2b7a3700f3ff4ea9aa7ca67fcfe1a5cc35fd10a75fef5a2bbdedc282739", func := "stemma/stemkeep5.DiskFlushedDataSurvives", spec := "diskFlushedDataSurvives", unfollowed := true, recurses := true, apart := false }
def DiskFlushedDataSurvivesSaid : Prop := diskFlushedDataSurvivesRow.holds Try.pinned (OpenSpec.ofChange diskFlushedDataSurvivesSpec)

/-- ITS FALSE NEIGHBOUR: 'it returns false'. Refute it at one input. -/
def diskFlushedDataSurvivesWrong : ChangeSpec := { name := "diskFlushedDataSurvives", fn := fun _ => fun
  | [d1, d2] => { results := [.lit (.bool false)], args := [d1, d2] }
  | _ => none }
def DiskFlushedDataSurvivesWrongFalsely : Prop := diskFlushedDataSurvivesRow.holds Try.pinned (OpenSpec.ofChange diskFlushedDataSurvivesWrong)

/-- 'stemkeep5.DiskCrashKeepsSelectedWrites': WHATEVER THE INPUT: true; the input reads as it did. -/
def diskCrashKeepsSelectedWritesSpec : ChangeSpec := { name := "diskCrashKeepsSelectedWrites", fn := fun _ => fun
  | [d] => { results := [.lit (.bool true)], args := [d] }
  | _ => none }
def diskCrashKeepsSelectedWritesRow : OpenClaim := { program := "ytmaeeidaegigcaa", sum := "09d4b2b7a3700f3ff4ea9aa7ca67fcfe1a5cc35fd10a75fef5a2bbdedc282739", func := "stemma/stemkeep5.DiskCrashKeepsSelectedWrites", spec := "diskCrashKeepsSelectedWrites", unfollowed := true, recurses := true, apart := false }
def DiskCrashKeepsSelectedWritesSaid : Prop := diskCrashKeepsSelectedWritesRow.holds Try.pinned (OpenSpec.ofChange diskCrashKeepsSelectedWritesSpec)

/-- ITS FALSE NEIGHBOUR: 'it returns false'. Refute it at one input. -/
def diskCrashKeepsSelectedWritesWrong : ChangeSpec := { name := "diskCrashKeepsSelectedWrites", fn := fun _ => fun
  | [d] => { results := [.lit (.bool false)], args := [d] }
  | _ => none }
def DiskCrashKeepsSelectedWritesWrongFalsely : Prop := diskCrashKeepsSelectedWritesRow.holds Try.pinned (OpenSpec.ofChange diskCrashKeepsSelectedWritesWrong)

/-- 'stemkeep5.WALDoesNotShareMemory': WHATEVER THE INPUT: true; the input reads as it did. -/
def wALDoesNotShareMemorySpec : ChangeSpec := { name := "wALDoesNotShareMemory", fn := fun _ => fun
  | [d] => { results := [.lit (.bool true)], args := [d] }
  | _ => none }
def wALDoesNotShareMemoryRow : OpenClaim := { program := "ytmaeeidaegigcaa", sum := "09d4b2b7a3700f3ff4ea9aa7ca67fcfe1a5cc35fd10a75fef5a2bbdedc282739", func := "stemma/stemkeep5.WALDoesNotShareMemory", spec := "wALDoesNotShareMemory", inPlace := ["internal/bytealg.MakeNoZero"], unfollowed := true, recurses := true, apart := false }
def WALDoesNotShareMemorySaid : Prop := wALDoesNotShareMemoryRow.holds Try.pinned (OpenSpec.ofChange wALDoesNotShareMemorySpec)

/-- ITS FALSE NEIGHBOUR: 'it returns false'. Refute it at one input. -/
def wALDoesNotShareMemoryWrong : ChangeSpec := { name := "wALDoesNotShareMemory", fn := fun _ => fun
  | [d] => { results := [.lit (.bool false)], args := [d] }
  | _ => none }
def WALDoesNotShareMemoryWrongFalsely : Prop := wALDoesNotShareMemoryRow.holds Try.pinned (OpenSpec.ofChange wALDoesNotShareMemoryWrong)

/-- 'stemkeep5.WALCrashIsIdempotent': WHATEVER THE INPUT: true; the input reads as it did. -/
def wALCrashIsIdempotentSpec : ChangeSpec := { name := "wALCrashIsIdempotent", fn := fun _ => fun
  | [d1, d2, d3] => { results := [.lit (.bool true)], args := [d1, d2, d3] }
  | _ => none }
def wALCrashIsIdempotentRow : OpenClaim := { program := "ytmaeeidaegigcaa", sum := "09d4b2b7a3700f3ff4ea9aa7ca67fcfe1a5cc35fd10a75fef5a2bbdedc282739", func := "stemma/stemkeep5.WALCrashIsIdempotent", spec := "wALCrashIsIdempotent", inPlace := ["internal/bytealg.MakeNoZero"], unfollowed := true, recurses := true, apart := false }
def WALCrashIsIdempotentSaid : Prop := wALCrashIsIdempotentRow.holds Try.pinned (OpenSpec.ofChange wALCrashIsIdempotentSpec)

/-- ITS FALSE NEIGHBOUR: 'it returns false'. Refute it at one input. -/
def wALCrashIsIdempotentWrong : ChangeSpec := { name := "wALCrashIsIdempotent", fn := fun _ => fun
  | [d1, d2, d3] => { results := [.lit (.bool false)], args := [d1, d2, d3] }
  | _ => none }
def WALCrashIsIdempotentWrongFalsely : Prop := wALCrashIsIdempotentRow.holds Try.pinned (OpenSpec.ofChange wALCrashIsIdempotentWrong)

/-- 'stemkeep5.WALReusesSpace': WHATEVER THE INPUT: true; the input reads as it did. -/
def wALReusesSpaceSpec : ChangeSpec := { name := "wALReusesSpace", fn := fun _ => fun
  | [d1, d2] => { results := [.lit (.bool true)], args := [d1, d2] }
  | _ => none }
def wALReusesSpaceRow : OpenClaim := { program := "ytmaeeidaegigcaa", sum := "09d4b2b7a3700f3ff4ea9aa7ca67fcfe1a5cc35fd10a75fef5a2bbdedc282739", func := "stemma/stemkeep5.WALReusesSpace", spec := "wALReusesSpace", inPlace := ["internal/bytealg.MakeNoZero"], unfollowed := true, recurses := true, apart := false }
def WALReusesSpaceSaid : Prop := wALReusesSpaceRow.holds Try.pinned (OpenSpec.ofChange wALReusesSpaceSpec)

/-- ITS FALSE NEIGHBOUR: 'it returns false'. Refute it at one input. -/
def wALReusesSpaceWrong : ChangeSpec := { name := "wALReusesSpace", fn := fun _ => fun
  | [d1, d2] => { results := [.lit (.bool false)], args := [d1, d2] }
  | _ => none }
def WALReusesSpaceWrongFalsely : Prop := wALReusesSpaceRow.holds Try.pinned (OpenSpec.ofChange wALReusesSpaceWrong)

/-- 'stemkeep5.WALRecoversPrefix': WHATEVER THE INPUT: true; the input reads as it did. -/
def wALRecoversPrefixSpec : ChangeSpec := { name := "wALRecoversPrefix", fn := fun _ => fun
  | [d1, d2] => { results := [.lit (.bool true)], args := [d1, d2] }
  | _ => none }
def wALRecoversPrefixRow : OpenClaim := { program := "ytmaeeidaegigcaa", sum := "09d4b2b7a3700f3ff4ea9aa7ca67fcfe1a5cc35fd10a75fef5a2bbdedc282739", func := "stemma/stemkeep5.WALRecoversPrefix", spec := "wALRecoversPrefix", inPlace := ["internal/bytealg.MakeNoZero"], unfollowed := true, recurses := true, apart := false }
def WALRecoversPrefixSaid : Prop := wALRecoversPrefixRow.holds Try.pinned (OpenSpec.ofChange wALRecoversPrefixSpec)

/-- ITS FALSE NEIGHBOUR: 'it returns false'. Refute it at one input. -/
def wALRecoversPrefixWrong : ChangeSpec := { name := "wALRecoversPrefix", fn := fun _ => fun
  | [d1, d2] => { results := [.lit (.bool false)], args := [d1, d2] }
  | _ => none }
def WALRecoversPrefixWrongFalsely : Prop := wALRecoversPrefixRow.holds Try.pinned (OpenSpec.ofChange wALRecoversPrefixWrong)

/-- 'stemkeep5.CheckpointMakesRoom': WHATEVER THE INPUT: true; the input reads as it did. -/
def checkpointMakesRoomSpec : ChangeSpec := { name := "checkpointMakesRoom", fn := fun _ => fun
  | [d] => { results := [.lit (.bool true)], args := [d] }
  | _ => none }
def checkpointMakesRoomRow : OpenClaim := { program := "ytmaeeidaegigcaa", sum := "09d4b2b7a3700f3ff4ea9aa7ca67fcfe1a5cc35fd10a75fef5a2bbdedc282739", func := "stemma/stemkeep5.CheckpointMakesRoom", spec := "checkpointMakesRoom", inPlace := ["internal/bytealg.abigen_runtime_cmpstring", "slices.overlaps[stemma/checkpoint.Entry]"], unfollowed := true, recurses := true, apart := false }
def CheckpointMakesRoomSaid : Prop := checkpointMakesRoomRow.holds Try.pinned (OpenSpec.ofChange checkpointMakesRoomSpec)

/-- ITS FALSE NEIGHBOUR: 'it returns false'. Refute it at one input. -/
def checkpointMakesRoomWrong : ChangeSpec := { name := "checkpointMakesRoom", fn := fun _ => fun
  | [d] => { results := [.lit (.bool false)], args := [d] }
  | _ => none }
def CheckpointMakesRoomWrongFalsely : Prop := checkpointMakesRoomRow.holds Try.pinned (OpenSpec.ofChange checkpointMakesRoomWrong)

/-- 'stemkeep5.CheckpointRecoversPrefix': WHATEVER THE INPUT: true; the input reads as it did. -/
def checkpointRecoversPrefixSpec : ChangeSpec := { name := "checkpointRecoversPrefix", fn := fun _ => fun
  | [d1, d2, d3] => { results := [.lit (.bool true)], args := [d1, d2, d3] }
  | _ => none }
def checkpointRecoversPrefixRow : OpenClaim := { program := "ytmaeeidaegigcaa", sum := "09d4b2b7a3700f3ff4ea9aa7ca67fcfe1a5cc35fd10a75fef5a2bbdedc282739", func := "stemma/stemkeep5.CheckpointRecoversPrefix", spec := "checkpointRecoversPrefix", inPlace := ["internal/bytealg.abigen_runtime_cmpstring", "slices.overlaps[stemma/checkpoint.Entry]", "internal/bytealg.Compare"], unfollowed := true, recurses := true, apart := false }
def CheckpointRecoversPrefixSaid : Prop := checkpointRecoversPrefixRow.holds Try.pinned (OpenSpec.ofChange checkpointRecoversPrefixSpec)

/-- ITS FALSE NEIGHBOUR: 'it returns false'. Refute it at one input. -/
def checkpointRecoversPrefixWrong : ChangeSpec := { name := "checkpointRecoversPrefix", fn := fun _ => fun
  | [d1, d2, d3] => { results := [.lit (.bool false)], args := [d1, d2, d3] }
  | _ => none }
def CheckpointRecoversPrefixWrongFalsely : Prop := checkpointRecoversPrefixRow.holds Try.pinned (OpenSpec.ofChange checkpointRecoversPrefixWrong)

/-- 'stemkeep5.CheckpointTruncatesLog': WHATEVER THE INPUT: true; the input reads as it did. -/
def checkpointTruncatesLogSpec : ChangeSpec := { name := "checkpointTruncatesLog", fn := fun _ => fun
  | [d1, d2] => { results := [.lit (.bool true)], args := [d1, d2] }
  | _ => none }
def checkpointTruncatesLogRow : OpenClaim := { program := "ytmaeeidaegigcaa", sum := "09d4b2b7a3700f3ff4ea9aa7ca67fcfe1a5cc35fd10a75fef5a2bbdedc282739", func := "stemma/stemkeep5.CheckpointTruncatesLog", spec := "checkpointTruncatesLog", inPlace := ["internal/bytealg.abigen_runtime_cmpstring", "slices.overlaps[stemma/checkpoint.Entry]", "internal/bytealg.Compare"], unfollowed := true, recurses := true, apart := false }
def CheckpointTruncatesLogSaid : Prop := checkpointTruncatesLogRow.holds Try.pinned (OpenSpec.ofChange checkpointTruncatesLogSpec)

/-- ITS FALSE NEIGHBOUR: 'it returns false'. Refute it at one input. -/
def checkpointTruncatesLogWrong : ChangeSpec := { name := "checkpointTruncatesLog", fn := fun _ => fun
  | [d1, d2] => { results := [.lit (.bool false)], args := [d1, d2] }
  | _ => none }
def CheckpointTruncatesLogWrongFalsely : Prop := checkpointTruncatesLogRow.holds Try.pinned (OpenSpec.ofChange checkpointTruncatesLogWrong)

/- THE SECOND FORM. 'bulk': how many values and letters a reading holds, each counted each time it is reached (what is shared counts as often as it is met; a slice's spare places count too). A statement '..UptoSaid' is the law's where the arguments, and the package variables that the reading takes, are together of bulk at most 1048576: NARROWER than '..Said'. Prove '..Said' where nothing that the law and all that it calls make is longer than what came in: it says more and counts as full. Else prove '..UptoSaid'. A law counts once. -/
mutual
def uptoBulk {H : Type} : DataW H → Nat
  | .lit (.string bytes) => bytes.length + 1
  | .lit _ => 1
  | .nil => 1
  | .ptr d => uptoBulk d + 1
  | .slice elems spare => uptoBulkAll elems + uptoBulkAll spare + 1
  | .agg parts => uptoBulkAll parts + 1
  | .iface _ d => uptoBulk d + 1
  | .map entries => uptoBulkEntries entries + 1
  | .held _ => 1
def uptoBulkAll {H : Type} : List (DataW H) → Nat
  | [] => 0
  | d :: r => uptoBulk d + uptoBulkAll r
def uptoBulkEntries {H : Type} : List (Lit × DataW H) → Nat
  | [] => 0
  | x :: r => uptoBulkEntry x + uptoBulkEntries r
def uptoBulkEntry {H : Type} : Lit × DataW H → Nat
  | (.string bytes, d) => bytes.length + uptoBulk d + 1
  | (_, d) => uptoBulk d + 1
 end
def uptoSmall : (H : Type) → List (DataW H) → Bool := fun _ ds => decide (uptoBulkAll ds ≤ 1048576)
def OpenSpec.upto (s : _root_.Go.ChangeSpec) : _root_.Go.OpenSpec := { _root_.Go.OpenSpec.ofChange s with cond := some uptoSmall }

/-- 'stemkeep5.DiskReadReturnsLatestWrite', WHERE WHAT IT READS IS OF BULK AT MOST 1048576: true; the input reads as it did. -/
def diskReadReturnsLatestWriteUptoRow : OpenClaim := { program := "ytmaeeidaegigcaa", sum := "09d4b2b7a3700f3ff4ea9aa7ca67fcfe1a5cc35fd10a75fef5a2bbdedc282739", func := "stemma/stemkeep5.DiskReadReturnsLatestWrite", spec := "diskReadReturnsLatestWrite", unfollowed := true, recurses := true, apart := false, narrowed := true }
def DiskReadReturnsLatestWriteUptoSaid : Prop := diskReadReturnsLatestWriteUptoRow.holds Try.pinned (OpenSpec.upto diskReadReturnsLatestWriteSpec)

/-- 'stemkeep5.DiskFlushedDataSurvives', WHERE WHAT IT READS IS OF BULK AT MOST 1048576: true; the input reads as it did. -/
def diskFlushedDataSurvivesUptoRow : OpenClaim := { program := "ytmaeeidaegigcaa", sum := "09d4b2b7a3700f3ff4ea9aa7ca67fcfe1a5cc35fd10a75fef5a2bbdedc282739", func := "stemma/stemkeep5.DiskFlushedDataSurvives", spec := "diskFlushedDataSurvives", unfollowed := true, recurses := true, apart := false, narrowed := true }
def DiskFlushedDataSurvivesUptoSaid : Prop := diskFlushedDataSurvivesUptoRow.holds Try.pinned (OpenSpec.upto diskFlushedDataSurvivesSpec)

/-- 'stemkeep5.DiskCrashKeepsSelectedWrites', WHERE WHAT IT READS IS OF BULK AT MOST 1048576: true; the input reads as it did. -/
def diskCrashKeepsSelectedWritesUptoRow : OpenClaim := { program := "ytmaeeidaegigcaa", sum := "09d4b2b7a3700f3ff4ea9aa7ca67fcfe1a5cc35fd10a75fef5a2bbdedc282739", func := "stemma/stemkeep5.DiskCrashKeepsSelectedWrites", spec := "diskCrashKeepsSelectedWrites", unfollowed := true, recurses := true, apart := false, narrowed := true }
def DiskCrashKeepsSelectedWritesUptoSaid : Prop := diskCrashKeepsSelectedWritesUptoRow.holds Try.pinned (OpenSpec.upto diskCrashKeepsSelectedWritesSpec)

/-- 'stemkeep5.WALDoesNotShareMemory', WHERE WHAT IT READS IS OF BULK AT MOST 1048576: true; the input reads as it did. -/
def wALDoesNotShareMemoryUptoRow : OpenClaim := { program := "ytmaeeidaegigcaa", sum := "09d4b2b7a3700f3ff4ea9aa7ca67fcfe1a5cc35fd10a75fef5a2bbdedc282739", func := "stemma/stemkeep5.WALDoesNotShareMemory", spec := "wALDoesNotShareMemory", inPlace := ["internal/bytealg.MakeNoZero"], unfollowed := true, recurses := true, apart := false, narrowed := true }
def WALDoesNotShareMemoryUptoSaid : Prop := wALDoesNotShareMemoryUptoRow.holds Try.pinned (OpenSpec.upto wALDoesNotShareMemorySpec)

/-- 'stemkeep5.WALCrashIsIdempotent', WHERE WHAT IT READS IS OF BULK AT MOST 1048576: true; the input reads as it did. -/
def wALCrashIsIdempotentUptoRow : OpenClaim := { program := "ytmaeeidaegigcaa", sum := "09d4b2b7a3700f3ff4ea9aa7ca67fcfe1a5cc35fd10a75fef5a2bbdedc282739", func := "stemma/stemkeep5.WALCrashIsIdempotent", spec := "wALCrashIsIdempotent", inPlace := ["internal/bytealg.MakeNoZero"], unfollowed := true, recurses := true, apart := false, narrowed := true }
def WALCrashIsIdempotentUptoSaid : Prop := wALCrashIsIdempotentUptoRow.holds Try.pinned (OpenSpec.upto wALCrashIsIdempotentSpec)

/-- 'stemkeep5.WALReusesSpace', WHERE WHAT IT READS IS OF BULK AT MOST 1048576: true; the input reads as it did. -/
def wALReusesSpaceUptoRow : OpenClaim := { program := "ytmaeeidaegigcaa", sum := "09d4b2b7a3700f3ff4ea9aa7ca67fcfe1a5cc35fd10a75fef5a2bbdedc282739", func := "stemma/stemkeep5.WALReusesSpace", spec := "wALReusesSpace", inPlace := ["internal/bytealg.MakeNoZero"], unfollowed := true, recurses := true, apart := false, narrowed := true }
def WALReusesSpaceUptoSaid : Prop := wALReusesSpaceUptoRow.holds Try.pinned (OpenSpec.upto wALReusesSpaceSpec)

/-- 'stemkeep5.WALRecoversPrefix', WHERE WHAT IT READS IS OF BULK AT MOST 1048576: true; the input reads as it did. -/
def wALRecoversPrefixUptoRow : OpenClaim := { program := "ytmaeeidaegigcaa", sum := "09d4b2b7a3700f3ff4ea9aa7ca67fcfe1a5cc35fd10a75fef5a2bbdedc282739", func := "stemma/stemkeep5.WALRecoversPrefix", spec := "wALRecoversPrefix", inPlace := ["internal/bytealg.MakeNoZero"], unfollowed := true, recurses := true, apart := false, narrowed := true }
def WALRecoversPrefixUptoSaid : Prop := wALRecoversPrefixUptoRow.holds Try.pinned (OpenSpec.upto wALRecoversPrefixSpec)

/-- 'stemkeep5.CheckpointMakesRoom', WHERE WHAT IT READS IS OF BULK AT MOST 1048576: true; the input reads as it did. -/
def checkpointMakesRoomUptoRow : OpenClaim := { program := "ytmaeeidaegigcaa", sum := "09d4b2b7a3700f3ff4ea9aa7ca67fcfe1a5cc35fd10a75fef5a2bbdedc282739", func := "stemma/stemkeep5.CheckpointMakesRoom", spec := "checkpointMakesRoom", inPlace := ["internal/bytealg.abigen_runtime_cmpstring", "slices.overlaps[stemma/checkpoint.Entry]"], unfollowed := true, recurses := true, apart := false, narrowed := true }
def CheckpointMakesRoomUptoSaid : Prop := checkpointMakesRoomUptoRow.holds Try.pinned (OpenSpec.upto checkpointMakesRoomSpec)

/-- 'stemkeep5.CheckpointRecoversPrefix', WHERE WHAT IT READS IS OF BULK AT MOST 1048576: true; the input reads as it did. -/
def checkpointRecoversPrefixUptoRow : OpenClaim := { program := "ytmaeeidaegigcaa", sum := "09d4b2b7a3700f3ff4ea9aa7ca67fcfe1a5cc35fd10a75fef5a2bbdedc282739", func := "stemma/stemkeep5.CheckpointRecoversPrefix", spec := "checkpointRecoversPrefix", inPlace := ["internal/bytealg.abigen_runtime_cmpstring", "slices.overlaps[stemma/checkpoint.Entry]", "internal/bytealg.Compare"], unfollowed := true, recurses := true, apart := false, narrowed := true }
def CheckpointRecoversPrefixUptoSaid : Prop := checkpointRecoversPrefixUptoRow.holds Try.pinned (OpenSpec.upto checkpointRecoversPrefixSpec)

/-- 'stemkeep5.CheckpointTruncatesLog', WHERE WHAT IT READS IS OF BULK AT MOST 1048576: true; the input reads as it did. -/
def checkpointTruncatesLogUptoRow : OpenClaim := { program := "ytmaeeidaegigcaa", sum := "09d4b2b7a3700f3ff4ea9aa7ca67fcfe1a5cc35fd10a75fef5a2bbdedc282739", func := "stemma/stemkeep5.CheckpointTruncatesLog", spec := "checkpointTruncatesLog", inPlace := ["internal/bytealg.abigen_runtime_cmpstring", "slices.overlaps[stemma/checkpoint.Entry]", "internal/bytealg.Compare"], unfollowed := true, recurses := true, apart := false, narrowed := true }
def CheckpointTruncatesLogUptoSaid : Prop := checkpointTruncatesLogUptoRow.holds Try.pinned (OpenSpec.upto checkpointTruncatesLogSpec)

end Rows
end Go.Proofs.Ytmaeeidaegigcaa
