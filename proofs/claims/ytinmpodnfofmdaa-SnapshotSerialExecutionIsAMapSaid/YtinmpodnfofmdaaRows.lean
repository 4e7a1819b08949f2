/-
  No cell of these rows narrows 'for every input' (looked for: loops, veiled, ifaces, maps, wideKeys, modest, calm, conditions, laid).
  DERIVED. THE GIVEN ROWS OF THIS SEAT. 13 by the template 'for every input the law returns true; each argument reads behind the call as it read before'; 0 by the template 'total and deterministic' (their statements: YtinmpodnfofmdaaTotals.lean).
  GIVEN WITH THE SEED: the statements are not yours to turn. If you find one false, say at which input.
  Laid BY PROGRAM, IN A SANDBOX (cutbox-rows.mjs): the forced cells as the released guide's own fill.sh prints them over the translation 6d784ca5bf628d5c… (all of the seat's roots in one cut). By AI agents, Wed Nov 11 2026. No macro, syntax, notation, axiom, sorry.
-/
import Derived.Test.YtinmpodnfofmdaaChecked
import GoSem.Claim
import GoSem.ClaimJoined
import GoSem.ClaimMapViews
import Derived.JoinedTies
import Derived.KernelRfl
namespace Go.Proofs.Ytinmpodnfofmdaa
/- THE CELL 'sum', in the pinned program and in every row, IS THE sha256 OF THE DUMP (.gsa) THAT YtinmpodnfofmdaaProg.lean LOADS. Nothing in Lean hashes anything: it is a label: what it is worth is what the hold of that sum in a sandbox is worth. -/
noncomputable def Try.pinned : Pinned := { name := "ytinmpodnfofmdaa", sum := "6d784ca5bf628d5cb9da99b94eb9c5fc5654d9aeafe88057fa2b496d593d271e", checked := Try.checked }
namespace Rows
def none {H : Type} : Left H := { results := [], args := [] }

/-- 'stemkeep5.MVCCLatestIncreases': WHATEVER THE INPUT: true; the input reads as it did. -/
def mVCCLatestIncreasesSpec : ChangeSpec := { name := "mVCCLatestIncreases", fn := fun _ => fun
  | [d1, d2, d3] => { results := [.lit (.bool true)], args := [d1, d2, d3] }
  | _ => none }
def mVCCLatestIncreasesRow : OpenClaim := { program := "ytinmpodnfofmdaa", sum := "6d784ca5bf628d5cb9da99b94eb9c5fc5654d9aeafe88057fa2b496d593d271e", func := "stemma/stemkeep5.MVCCLatestIncreases", spec := "mVCCLatestIncreases", inPlace := ["internal/bytealg.abigen_runtime_cmpstring", "slices.overlaps[stemma/mvcc.chain]"], unfollowed := true, recurses := true, apart := false }
def MVCCLatestIncreasesSaid : Prop := mVCCLatestIncreasesRow.holds Try.pinned (OpenSpec.ofChange mVCCLatestIncreasesSpec)

/-- ITS FALSE NEIGHBOUR: 'it returns false'. Refute it at one input. -/
def mVCCLatestIncreasesWrong : ChangeSpec := { name := "mVCCLatestIncreases", fn := fun _ => fun
  | [d1, d2, d3] => { results := [.lit (.bool false)], args := [d1, d2, d3] }
  | _ => none }
def MVCCLatestIncreasesWrongFalsely : Prop := mVCCLatestIncreasesRow.holds Try.pinned (OpenSpec.ofChange mVCCLatestIncreasesWrong)

/-- 'stemkeep5.MVCCDoesNotShareMemory': WHATEVER THE INPUT: true; the input reads as it did. -/
def mVCCDoesNotShareMemorySpec : ChangeSpec := { name := "mVCCDoesNotShareMemory", fn := fun _ => fun
  | [d] => { results := [.lit (.bool true)], args := [d] }
  | _ => none }
def mVCCDoesNotShareMemoryRow : OpenClaim := { program := "ytinmpodnfofmdaa", sum := "6d784ca5bf628d5cb9da99b94eb9c5fc5654d9aeafe88057fa2b496d593d271e", func := "stemma/stemkeep5.MVCCDoesNotShareMemory", spec := "mVCCDoesNotShareMemory", inPlace := ["internal/bytealg.abigen_runtime_cmpstring", "slices.overlaps[stemma/mvcc.chain]"], unfollowed := true, recurses := true, apart := false }
def MVCCDoesNotShareMemorySaid : Prop := mVCCDoesNotShareMemoryRow.holds Try.pinned (OpenSpec.ofChange mVCCDoesNotShareMemorySpec)

/-- ITS FALSE NEIGHBOUR: 'it returns false'. Refute it at one input. -/
def mVCCDoesNotShareMemoryWrong : ChangeSpec := { name := "mVCCDoesNotShareMemory", fn := fun _ => fun
  | [d] => { results := [.lit (.bool false)], args := [d] }
  | _ => none }
def MVCCDoesNotShareMemoryWrongFalsely : Prop := mVCCDoesNotShareMemoryRow.holds Try.pinned (OpenSpec.ofChange mVCCDoesNotShareMemoryWrong)

/-- 'stemkeep5.MVCCReadsAreRepeatable': WHATEVER THE INPUT: true; the input reads as it did. -/
def mVCCReadsAreRepeatableSpec : ChangeSpec := { name := "mVCCReadsAreRepeatable", fn := fun _ => fun
  | [d1, d2, d3] => { results := [.lit (.bool true)], args := [d1, d2, d3] }
  | _ => none }
def mVCCReadsAreRepeatableRow : OpenClaim := { program := "ytinmpodnfofmdaa", sum := "6d784ca5bf628d5cb9da99b94eb9c5fc5654d9aeafe88057fa2b496d593d271e", func := "stemma/stemkeep5.MVCCReadsAreRepeatable", spec := "mVCCReadsAreRepeatable", inPlace := ["internal/bytealg.abigen_runtime_cmpstring", "slices.overlaps[stemma/mvcc.chain]"], unfollowed := true, recurses := true, apart := false }
def MVCCReadsAreRepeatableSaid : Prop := mVCCReadsAreRepeatableRow.holds Try.pinned (OpenSpec.ofChange mVCCReadsAreRepeatableSpec)

/-- ITS FALSE NEIGHBOUR: 'it returns false'. Refute it at one input. -/
def mVCCReadsAreRepeatableWrong : ChangeSpec := { name := "mVCCReadsAreRepeatable", fn := fun _ => fun
  | [d1, d2, d3] => { results := [.lit (.bool false)], args := [d1, d2, d3] }
  | _ => none }
def MVCCReadsAreRepeatableWrongFalsely : Prop := mVCCReadsAreRepeatableRow.holds Try.pinned (OpenSpec.ofChange mVCCReadsAreRepeatableWrong)

/-- 'stemkeep5.MVCCScanMatchesGet': WHATEVER THE INPUT: true; the input reads as it did. -/
def mVCCScanMatchesGetSpec : ChangeSpec := { name := "mVCCScanMatchesGet", fn := fun _ => fun
  | [d1, d2] => { results := [.lit (.bool true)], args := [d1, d2] }
  | _ => none }
def mVCCScanMatchesGetRow : OpenClaim := { program := "ytinmpodnfofmdaa", sum := "6d784ca5bf628d5cb9da99b94eb9c5fc5654d9aeafe88057fa2b496d593d271e", func := "stemma/stemkeep5.MVCCScanMatchesGet", spec := "mVCCScanMatchesGet", inPlace := ["internal/bytealg.abigen_runtime_cmpstring", "slices.overlaps[stemma/mvcc.chain]"], unfollowed := true, recurses := true, apart := false }
def MVCCScanMatchesGetSaid : Prop := mVCCScanMatchesGetRow.holds Try.pinned (OpenSpec.ofChange mVCCScanMatchesGetSpec)

/-- ITS FALSE NEIGHBOUR: 'it returns false'. Refute it at one input. -/
def mVCCScanMatchesGetWrong : ChangeSpec := { name := "mVCCScanMatchesGet", fn := fun _ => fun
  | [d1, d2] => { results := [.lit (.bool false)], args := [d1, d2] }
  | _ => none }
def MVCCScanMatchesGetWrongFalsely : Prop := mVCCScanMatchesGetRow.holds Try.pinned (OpenSpec.ofChange mVCCScanMatchesGetWrong)

/-- 'stemkeep5.MVCCVacuumIsComplete': WHATEVER THE INPUT: true; the input reads as it did. -/
def mVCCVacuumIsCompleteSpec : ChangeSpec := { name := "mVCCVacuumIsComplete", fn := fun _ => fun
  | [d] => { results := [.lit (.bool true)], args := [d] }
  | _ => none }
def mVCCVacuumIsCompleteRow : OpenClaim := { program := "ytinmpodnfofmdaa", sum := "6d784ca5bf628d5cb9da99b94eb9c5fc5654d9aeafe88057fa2b496d593d271e", func := "stemma/stemkeep5.MVCCVacuumIsComplete", spec := "mVCCVacuumIsComplete", inPlace := ["internal/bytealg.abigen_runtime_cmpstring", "slices.overlaps[stemma/mvcc.chain]"], unfollowed := true, recurses := true, apart := false }
def MVCCVacuumIsCompleteSaid : Prop := mVCCVacuumIsCompleteRow.holds Try.pinned (OpenSpec.ofChange mVCCVacuumIsCompleteSpec)

/-- ITS FALSE NEIGHBOUR: 'it returns false'. Refute it at one input. -/
def mVCCVacuumIsCompleteWrong : ChangeSpec := { name := "mVCCVacuumIsComplete", fn := fun _ => fun
  | [d] => { results := [.lit (.bool false)], args := [d] }
  | _ => none }
def MVCCVacuumIsCompleteWrongFalsely : Prop := mVCCVacuumIsCompleteRow.holds Try.pinned (OpenSpec.ofChange mVCCVacuumIsCompleteWrong)

/-- 'stemkeep5.MVCCVacuumPreservesReads': WHATEVER THE INPUT: true; the input reads as it did. -/
def mVCCVacuumPreservesReadsSpec : ChangeSpec := { name := "mVCCVacuumPreservesReads", fn := fun _ => fun
  | [d1, d2, d3] => { results := [.lit (.bool true)], args := [d1, d2, d3] }
  | _ => none }
def mVCCVacuumPreservesReadsRow : OpenClaim := { program := "ytinmpodnfofmdaa", sum := "6d784ca5bf628d5cb9da99b94eb9c5fc5654d9aeafe88057fa2b496d593d271e", func := "stemma/stemkeep5.MVCCVacuumPreservesReads", spec := "mVCCVacuumPreservesReads", inPlace := ["internal/bytealg.abigen_runtime_cmpstring", "slices.overlaps[stemma/mvcc.chain]"], unfollowed := true, recurses := true, apart := false }
def MVCCVacuumPreservesReadsSaid : Prop := mVCCVacuumPreservesReadsRow.holds Try.pinned (OpenSpec.ofChange mVCCVacuumPreservesReadsSpec)

/-- ITS FALSE NEIGHBOUR: 'it returns false'. Refute it at one input. -/
def mVCCVacuumPreservesReadsWrong : ChangeSpec := { name := "mVCCVacuumPreservesReads", fn := fun _ => fun
  | [d1, d2, d3] => { results := [.lit (.bool false)], args := [d1, d2, d3] }
  | _ => none }
def MVCCVacuumPreservesReadsWrongFalsely : Prop := mVCCVacuumPreservesReadsRow.holds Try.pinned (OpenSpec.ofChange mVCCVacuumPreservesReadsWrong)

/-- 'stemkeep5.SnapshotClockCountsWritingCommits': WHATEVER THE INPUT: true; the input reads as it did. -/
def snapshotClockCountsWritingCommitsSpec : ChangeSpec := { name := "snapshotClockCountsWritingCommits", fn := fun _ => fun
  | [d] => { results := [.lit (.bool true)], args := [d] }
  | _ => none }
def snapshotClockCountsWritingCommitsRow : OpenClaim := { program := "ytinmpodnfofmdaa", sum := "6d784ca5bf628d5cb9da99b94eb9c5fc5654d9aeafe88057fa2b496d593d271e", func := "stemma/stemkeep5.SnapshotClockCountsWritingCommits", spec := "snapshotClockCountsWritingCommits", inPlace := ["internal/bytealg.abigen_runtime_cmpstring", "slices.overlaps[stemma/snapshot.write]", "slices.overlaps[stemma/mvcc.chain]"], unfollowed := true, recurses := true, apart := false }
def SnapshotClockCountsWritingCommitsSaid : Prop := snapshotClockCountsWritingCommitsRow.holds Try.pinned (OpenSpec.ofChange snapshotClockCountsWritingCommitsSpec)

/-- ITS FALSE NEIGHBOUR: 'it returns false'. Refute it at one input. -/
def snapshotClockCountsWritingCommitsWrong : ChangeSpec := { name := "snapshotClockCountsWritingCommits", fn := fun _ => fun
  | [d] => { results := [.lit (.bool false)], args := [d] }
  | _ => none }
def SnapshotClockCountsWritingCommitsWrongFalsely : Prop := snapshotClockCountsWritingCommitsRow.holds Try.pinned (OpenSpec.ofChange snapshotClockCountsWritingCommitsWrong)

/-- 'stemkeep5.SnapshotFirstCommitterWins': WHATEVER THE INPUT: true; the input reads as it did. -/
def snapshotFirstCommitterWinsSpec : ChangeSpec := { name := "snapshotFirstCommitterWins", fn := fun _ => fun
  | [d1, d2, d3] => { results := [.lit (.bool true)], args := [d1, d2, d3] }
  | _ => none }
def snapshotFirstCommitterWinsRow : OpenClaim := { program := "ytinmpodnfofmdaa", sum := "6d784ca5bf628d5cb9da99b94eb9c5fc5654d9aeafe88057fa2b496d593d271e", func := "stemma/stemkeep5.SnapshotFirstCommitterWins", spec := "snapshotFirstCommitterWins", inPlace := ["internal/bytealg.abigen_runtime_cmpstring", "slices.overlaps[stemma/snapshot.write]", "slices.overlaps[stemma/mvcc.chain]"], unfollowed := true, recurses := true, apart := false }
def SnapshotFirstCommitterWinsSaid : Prop := snapshotFirstCommitterWinsRow.holds Try.pinned (OpenSpec.ofChange snapshotFirstCommitterWinsSpec)

/-- ITS FALSE NEIGHBOUR: 'it returns false'. Refute it at one input. -/
def snapshotFirstCommitterWinsWrong : ChangeSpec := { name := "snapshotFirstCommitterWins", fn := fun _ => fun
  | [d1, d2, d3] => { results := [.lit (.bool false)], args := [d1, d2, d3] }
  | _ => none }
def SnapshotFirstCommitterWinsWrongFalsely : Prop := snapshotFirstCommitterWinsRow.holds Try.pinned (OpenSpec.ofChange snapshotFirstCommitterWinsWrong)

/-- 'stemkeep5.SnapshotPermitsWriteSkew': WHATEVER THE INPUT: true; the input reads as it did. -/
def snapshotPermitsWriteSkewSpec : ChangeSpec := { name := "snapshotPermitsWriteSkew", fn := fun _ => fun
  | [d1, d2, d3] => { results := [.lit (.bool true)], args := [d1, d2, d3] }
  | _ => none }
def snapshotPermitsWriteSkewRow : OpenClaim := { program := "ytinmpodnfofmdaa", sum := "6d784ca5bf628d5cb9da99b94eb9c5fc5654d9aeafe88057fa2b496d593d271e", func := "stemma/stemkeep5.SnapshotPermitsWriteSkew", spec := "snapshotPermitsWriteSkew", inPlace := ["internal/bytealg.abigen_runtime_cmpstring", "slices.overlaps[stemma/snapshot.write]", "slices.overlaps[stemma/mvcc.chain]"], unfollowed := true, recurses := true, apart := false }
def SnapshotPermitsWriteSkewSaid : Prop := snapshotPermitsWriteSkewRow.holds Try.pinned (OpenSpec.ofChange snapshotPermitsWriteSkewSpec)

/-- ITS FALSE NEIGHBOUR: 'it returns false'. Refute it at one input. -/
def snapshotPermitsWriteSkewWrong : ChangeSpec := { name := "snapshotPermitsWriteSkew", fn := fun _ => fun
  | [d1, d2, d3] => { results := [.lit (.bool false)], args := [d1, d2, d3] }
  | _ => none }
def SnapshotPermitsWriteSkewWrongFalsely : Prop := snapshotPermitsWriteSkewRow.holds Try.pinned (OpenSpec.ofChange snapshotPermitsWriteSkewWrong)

/-- 'stemkeep5.SnapshotSerialExecutionIsAMap': WHATEVER THE INPUT: true; the input reads as it did. -/
def snapshotSerialExecutionIsAMapSpec : ChangeSpec := { name := "snapshotSerialExecutionIsAMap", fn := fun _ => fun
  | [d] => { results := [.lit (.bool true)], args := [d] }
  | _ => none }
def snapshotSerialExecutionIsAMapRow : OpenClaim := { program := "ytinmpodnfofmdaa", sum := "6d784ca5bf628d5cb9da99b94eb9c5fc5654d9aeafe88057fa2b496d593d271e", func := "stemma/stemkeep5.SnapshotSerialExecutionIsAMap", spec := "snapshotSerialExecutionIsAMap", inPlace := ["internal/bytealg.abigen_runtime_cmpstring", "slices.overlaps[stemma/snapshot.write]", "slices.overlaps[stemma/mvcc.chain]"], unfollowed := true, recurses := true, apart := false }
def SnapshotSerialExecutionIsAMapSaid : Prop := snapshotSerialExecutionIsAMapRow.holds Try.pinned (OpenSpec.ofChange snapshotSerialExecutionIsAMapSpec)

/-- ITS FALSE NEIGHBOUR: 'it returns false'. Refute it at one input. -/
def snapshotSerialExecutionIsAMapWrong : ChangeSpec := { name := "snapshotSerialExecutionIsAMap", fn := fun _ => fun
  | [d] => { results := [.lit (.bool false)], args := [d] }
  | _ => none }
def SnapshotSerialExecutionIsAMapWrongFalsely : Prop := snapshotSerialExecutionIsAMapRow.holds Try.pinned (OpenSpec.ofChange snapshotSerialExecutionIsAMapWrong)

/-- 'stemkeep5.SnapshotReadsAreStable': WHATEVER THE INPUT: true; the input reads as it did. -/
def snapshotReadsAreStableSpec : ChangeSpec := { name := "snapshotReadsAreStable", fn := fun _ => fun
  | [d1, d2] => { results := [.lit (.bool true)], args := [d1, d2] }
  | _ => none }
def snapshotReadsAreStableRow : OpenClaim := { program := "ytinmpodnfofmdaa", sum := "6d784ca5bf628d5cb9da99b94eb9c5fc5654d9aeafe88057fa2b496d593d271e", func := "stemma/stemkeep5.SnapshotReadsAreStable", spec := "snapshotReadsAreStable", inPlace := ["internal/bytealg.abigen_runtime_cmpstring", "slices.overlaps[stemma/snapshot.write]", "slices.overlaps[stemma/mvcc.chain]"], unfollowed := true, recurses := true, apart := false }
def SnapshotReadsAreStableSaid : Prop := snapshotReadsAreStableRow.holds Try.pinned (OpenSpec.ofChange snapshotReadsAreStableSpec)

/-- ITS FALSE NEIGHBOUR: 'it returns false'. Refute it at one input. -/
def snapshotReadsAreStableWrong : ChangeSpec := { name := "snapshotReadsAreStable", fn := fun _ => fun
  | [d1, d2] => { results := [.lit (.bool false)], args := [d1, d2] }
  | _ => none }
def SnapshotReadsAreStableWrongFalsely : Prop := snapshotReadsAreStableRow.holds Try.pinned (OpenSpec.ofChange snapshotReadsAreStableWrong)

/-- 'stemkeep5.SnapshotRollbackHasNoEffect': WHATEVER THE INPUT: true; the input reads as it did. -/
def snapshotRollbackHasNoEffectSpec : ChangeSpec := { name := "snapshotRollbackHasNoEffect", fn := fun _ => fun
  | [d1, d2] => { results := [.lit (.bool true)], args := [d1, d2] }
  | _ => none }
def snapshotRollbackHasNoEffectRow : OpenClaim := { program := "ytinmpodnfofmdaa", sum := "6d784ca5bf628d5cb9da99b94eb9c5fc5654d9aeafe88057fa2b496d593d271e", func := "stemma/stemkeep5.SnapshotRollbackHasNoEffect", spec := "snapshotRollbackHasNoEffect", inPlace := ["internal/bytealg.abigen_runtime_cmpstring", "slices.overlaps[stemma/snapshot.write]", "slices.overlaps[stemma/mvcc.chain]"], unfollowed := true, recurses := true, apart := false }
def SnapshotRollbackHasNoEffectSaid : Prop := snapshotRollbackHasNoEffectRow.holds Try.pinned (OpenSpec.ofChange snapshotRollbackHasNoEffectSpec)

/-- ITS FALSE NEIGHBOUR: 'it returns false'. Refute it at one input. -/
def snapshotRollbackHasNoEffectWrong : ChangeSpec := { name := "snapshotRollbackHasNoEffect", fn := fun _ => fun
  | [d1, d2] => { results := [.lit (.bool false)], args := [d1, d2] }
  | _ => none }
def SnapshotRollbackHasNoEffectWrongFalsely : Prop := snapshotRollbackHasNoEffectRow.holds Try.pinned (OpenSpec.ofChange snapshotRollbackHasNoEffectWrong)

/-- 'stemkeep5.SnapshotReadsOwnWrites': WHATEVER THE INPUT: true; the input reads as it did. -/
def snapshotReadsOwnWritesSpec : ChangeSpec := { name := "snapshotReadsOwnWrites", fn := fun _ => fun
  | [d1, d2, d3, d4] => { results := [.lit (.bool true)], args := [d1, d2, d3, d4] }
  | _ => none }
def snapshotReadsOwnWritesRow : OpenClaim := { program := "ytinmpodnfofmdaa", sum := "6d784ca5bf628d5cb9da99b94eb9c5fc5654d9aeafe88057fa2b496d593d271e", func := "stemma/stemkeep5.SnapshotReadsOwnWrites", spec := "snapshotReadsOwnWrites", inPlace := ["internal/bytealg.abigen_runtime_cmpstring", "slices.overlaps[stemma/snapshot.write]", "slices.overlaps[stemma/mvcc.chain]"], unfollowed := true, recurses := true, apart := false }
def SnapshotReadsOwnWritesSaid : Prop := snapshotReadsOwnWritesRow.holds Try.pinned (OpenSpec.ofChange snapshotReadsOwnWritesSpec)

/-- ITS FALSE NEIGHBOUR: 'it returns false'. Refute it at one input. -/
def snapshotReadsOwnWritesWrong : ChangeSpec := { name := "snapshotReadsOwnWrites", fn := fun _ => fun
  | [d1, d2, d3, d4] => { results := [.lit (.bool false)], args := [d1, d2, d3, d4] }
  | _ => none }
def SnapshotReadsOwnWritesWrongFalsely : Prop := snapshotReadsOwnWritesRow.holds Try.pinned (OpenSpec.ofChange snapshotReadsOwnWritesWrong)

/- THE SECOND FORM. 'bulk': how many values and letters a reading holds, each counted each time it is reached (what is shared counts as often as it is met; a slice's spare places count too). A statement '..UptoSaid' is the law's where the arguments, and the package variables that the reading takes, are together of bulk at most 1048576: NARROWER than '..Said'. Prove '..Said' where nothing that the law and all that it calls make is longer than what came in: it says more and counts as full. Else prove '..UptoSaid'. A law counts once. -/
mutual
def uptoBulk {H : Type} : DataW H → Nat
  | .lit (.string bytes) => bytes.length + 1
  | .lit _ => 1
  | .nil => 1
  | .ptr d => uptoBulk d + 1
  | .slice elems spare => uptoBulkAll elems + uptoBulkAll spare + 1
  | .agg parts => uptoBulkAll parts + 1
  | .iface _ d => uptoBulk d + 1
  | .map entries => uptoBulkEntries entries + 1
  | .held _ => 1
def uptoBulkAll {H : Type} : List (DataW H) → Nat
  | [] => 0
  | d :: r => uptoBulk d + uptoBulkAll r
def uptoBulkEntries {H : Type} : List (Lit × DataW H) → Nat
  | [] => 0
  | x :: r => uptoBulkEntry x + uptoBulkEntries r
def uptoBulkEntry {H : Type} : Lit × DataW H → Nat
  | (.string bytes, d) => bytes.length + uptoBulk d + 1
  | (_, d) => uptoBulk d + 1
 end
def uptoSmall : (H : Type) → List (DataW H) → Bool := fun _ ds => decide (uptoBulkAll ds ≤ 1048576)
def OpenSpec.upto (s : _root_.Go.ChangeSpec) : _root_.Go.OpenSpec := { _root_.Go.OpenSpec.ofChange s with cond := some uptoSmall }

/-- 'stemkeep5.MVCCLatestIncreases', WHERE WHAT IT READS IS OF BULK AT MOST 1048576: true; the input reads as it did. -/
def mVCCLatestIncreasesUptoRow : OpenClaim := { program := "ytinmpodnfofmdaa", sum := "6d784ca5bf628d5cb9da99b94eb9c5fc5654d9aeafe88057fa2b496d593d271e", func := "stemma/stemkeep5.MVCCLatestIncreases", spec := "mVCCLatestIncreases", inPlace := ["internal/bytealg.abigen_runtime_cmpstring", "slices.overlaps[stemma/mvcc.chain]"], unfollowed := true, recurses := true, apart := false, narrowed := true }
def MVCCLatestIncreasesUptoSaid : Prop := mVCCLatestIncreasesUptoRow.holds Try.pinned (OpenSpec.upto mVCCLatestIncreasesSpec)

/-- 'stemkeep5.MVCCDoesNotShareMemory', WHERE WHAT IT READS IS OF BULK AT MOST 1048576: true; the input reads as it did. -/
def mVCCDoesNotShareMemoryUptoRow : OpenClaim := { program := "ytinmpodnfofmdaa", sum := "6d784ca5bf628d5cb9da99b94eb9c5fc5654d9aeafe88057fa2b496d593d271e", func := "stemma/stemkeep5.MVCCDoesNotShareMemory", spec := "mVCCDoesNotShareMemory", inPlace := ["internal/bytealg.abigen_runtime_cmpstring", "slices.overlaps[stemma/mvcc.chain]"], unfollowed := true, recurses := true, apart := false, narrowed := true }
def MVCCDoesNotShareMemoryUptoSaid : Prop := mVCCDoesNotShareMemoryUptoRow.holds Try.pinned (OpenSpec.upto mVCCDoesNotShareMemorySpec)

/-- 'stemkeep5.MVCCReadsAreRepeatable', WHERE WHAT IT READS IS OF BULK AT MOST 1048576: true; the input reads as it did. -/
def mVCCReadsAreRepeatableUptoRow : OpenClaim := { program := "ytinmpodnfofmdaa", sum := "6d784ca5bf628d5cb9da99b94eb9c5fc5654d9aeafe88057fa2b496d593d271e", func := "stemma/stemkeep5.MVCCReadsAreRepeatable", spec := "mVCCReadsAreRepeatable", inPlace := ["internal/bytealg.abigen_runtime_cmpstring", "slices.overlaps[stemma/mvcc.chain]"], unfollowed := true, recurses := true, apart := false, narrowed := true }
def MVCCReadsAreRepeatableUptoSaid : Prop := mVCCReadsAreRepeatableUptoRow.holds Try.pinned (OpenSpec.upto mVCCReadsAreRepeatableSpec)

/-- 'stemkeep5.MVCCScanMatchesGet', WHERE WHAT IT READS IS OF BULK AT MOST 1048576: true; the input reads as it did. -/
def mVCCScanMatchesGetUptoRow : OpenClaim := { program := "ytinmpodnfofmdaa", sum := "6d784ca5bf628d5cb9da99b94eb9c5fc5654d9aeafe88057fa2b496d593d271e", func := "stemma/stemkeep5.MVCCScanMatchesGet", spec := "mVCCScanMatchesGet", inPlace := ["internal/bytealg.abigen_runtime_cmpstring", "slices.overlaps[stemma/mvcc.chain]"], unfollowed := true, recurses := true, apart := false, narrowed := true }
def MVCCScanMatchesGetUptoSaid : Prop := mVCCScanMatchesGetUptoRow.holds Try.pinned (OpenSpec.upto mVCCScanMatchesGetSpec)

/-- 'stemkeep5.MVCCVacuumIsComplete', WHERE WHAT IT READS IS OF BULK AT MOST 1048576: true; the input reads as it did. -/
def mVCCVacuumIsCompleteUptoRow : OpenClaim := { program := "ytinmpodnfofmdaa", sum := "6d784ca5bf628d5cb9da99b94eb9c5fc5654d9aeafe88057fa2b496d593d271e", func := "stemma/stemkeep5.MVCCVacuumIsComplete", spec := "mVCCVacuumIsComplete", inPlace := ["internal/bytealg.abigen_runtime_cmpstring", "slices.overlaps[stemma/mvcc.chain]"], unfollowed := true, recurses := true, apart := false, narrowed := true }
def MVCCVacuumIsCompleteUptoSaid : Prop := mVCCVacuumIsCompleteUptoRow.holds Try.pinned (OpenSpec.upto mVCCVacuumIsCompleteSpec)

/-- 'stemkeep5.MVCCVacuumPreservesReads', WHERE WHAT IT READS IS OF BULK AT MOST 1048576: true; the input reads as it did. -/
def mVCCVacuumPreservesReadsUptoRow : OpenClaim := { program := "ytinmpodnfofmdaa", sum := "6d784ca5bf628d5cb9da99b94eb9c5fc5654d9aeafe88057fa2b496d593d271e", func := "stemma/stemkeep5.MVCCVacuumPreservesReads", spec := "mVCCVacuumPreservesReads", inPlace := ["internal/bytealg.abigen_runtime_cmpstring", "slices.overlaps[stemma/mvcc.chain]"], unfollowed := true, recurses := true, apart := false, narrowed := true }
def MVCCVacuumPreservesReadsUptoSaid : Prop := mVCCVacuumPreservesReadsUptoRow.holds Try.pinned (OpenSpec.upto mVCCVacuumPreservesReadsSpec)

/-- 'stemkeep5.SnapshotClockCountsWritingCommits', WHERE WHAT IT READS IS OF BULK AT MOST 1048576: true; the input reads as it did. -/
def snapshotClockCountsWritingCommitsUptoRow : OpenClaim := { program := "ytinmpodnfofmdaa", sum := "6d784ca5bf628d5cb9da99b94eb9c5fc5654d9aeafe88057fa2b496d593d271e", func := "stemma/stemkeep5.SnapshotClockCountsWritingCommits", spec := "snapshotClockCountsWritingCommits", inPlace := ["internal/bytealg.abigen_runtime_cmpstring", "slices.overlaps[stemma/snapshot.write]", "slices.overlaps[stemma/mvcc.chain]"], unfollowed := true, recurses := true, apart := false, narrowed := true }
def SnapshotClockCountsWritingCommitsUptoSaid : Prop := snapshotClockCountsWritingCommitsUptoRow.holds Try.pinned (OpenSpec.upto snapshotClockCountsWritingCommitsSpec)

/-- 'stemkeep5.SnapshotFirstCommitterWins', WHERE WHAT IT READS IS OF BULK AT MOST 1048576: true; the input reads as it did. -/
def snapshotFirstCommitterWinsUptoRow : OpenClaim := { program := "ytinmpodnfofmdaa", sum := "6d784ca5bf628d5cb9da99b94eb9c5fc5654d9aeafe88057fa2b496d593d271e", func := "stemma/stemkeep5.SnapshotFirstCommitterWins", spec := "snapshotFirstCommitterWins", inPlace := ["internal/bytealg.abigen_runtime_cmpstring", "slices.overlaps[stemma/snapshot.write]", "slices.overlaps[stemma/mvcc.chain]"], unfollowed := true, recurses := true, apart := false, narrowed := true }
def SnapshotFirstCommitterWinsUptoSaid : Prop := snapshotFirstCommitterWinsUptoRow.holds Try.pinned (OpenSpec.upto snapshotFirstCommitterWinsSpec)

/-- 'stemkeep5.SnapshotPermitsWriteSkew', WHERE WHAT IT READS IS OF BULK AT MOST 1048576: true; the input reads as it did. -/
def snapshotPermitsWriteSkewUptoRow : OpenClaim := { program := "ytinmpodnfofmdaa", sum := "6d784ca5bf628d5cb9da99b94eb9c5fc5654d9aeafe88057fa2b496d593d271e", func := "stemma/stemkeep5.SnapshotPermitsWriteSkew", spec := "snapshotPermitsWriteSkew", inPlace := ["internal/bytealg.abigen_runtime_cmpstring", "slices.overlaps[stemma/snapshot.write]", "slices.overlaps[stemma/mvcc.chain]"], unfollowed := true, recurses := true, apart := false, narrowed := true }
def SnapshotPermitsWriteSkewUptoSaid : Prop := snapshotPermitsWriteSkewUptoRow.holds Try.pinned (OpenSpec.upto snapshotPermitsWriteSkewSpec)

/-- 'stemkeep5.SnapshotSerialExecutionIsAMap', WHERE WHAT IT READS IS OF BULK AT MOST 1048576: true; the input reads as it did. -/
def snapshotSerialExecutionIsAMapUptoRow : OpenClaim := { program := "ytinmpodnfofmdaa", sum := "6d784ca5bf628d5cb9da99b94eb9c5fc5654d9aeafe88057fa2b496d593d271e", func := "stemma/stemkeep5.SnapshotSerialExecutionIsAMap", spec := "snapshotSerialExecutionIsAMap", inPlace := ["internal/bytealg.abigen_runtime_cmpstring", "slices.overlaps[stemma/snapshot.write]", "slices.overlaps[stemma/mvcc.chain]"], unfollowed := true, recurses := true, apart := false, narrowed := true }
def SnapshotSerialExecutionIsAMapUptoSaid : Prop := snapshotSerialExecutionIsAMapUptoRow.holds Try.pinned (OpenSpec.upto snapshotSerialExecutionIsAMapSpec)

/-- 'stemkeep5.SnapshotReadsAreStable', WHERE WHAT IT READS IS OF BULK AT MOST 1048576: true; the input reads as it did. -/
def snapshotReadsAreStableUptoRow : OpenClaim := { program := "ytinmpodnfofmdaa", sum := "6d784ca5bf628d5cb9da99b94eb9c5fc5654d9aeafe88057fa2b496d593d271e", func := "stemma/stemkeep5.SnapshotReadsAreStable", spec := "snapshotReadsAreStable", inPlace := ["internal/bytealg.abigen_runtime_cmpstring", "slices.overlaps[stemma/snapshot.write]", "slices.overlaps[stemma/mvcc.chain]"], unfollowed := true, recurses := true, apart := false, narrowed := true }
def SnapshotReadsAreStableUptoSaid : Prop := snapshotReadsAreStableUptoRow.holds Try.pinned (OpenSpec.upto snapshotReadsAreStableSpec)

/-- 'stemkeep5.SnapshotRollbackHasNoEffect', WHERE WHAT IT READS IS OF BULK AT MOST 1048576: true; the input reads as it did. -/
def snapshotRollbackHasNoEffectUptoRow : OpenClaim := { program := "ytinmpodnfofmdaa", sum := "6d784ca5bf628d5cb9da99b94eb9c5fc5654d9aeafe88057fa2b496d593d271e", func := "stemma/stemkeep5.SnapshotRollbackHasNoEffect", spec := "snapshotRollbackHasNoEffect", inPlace := ["internal/bytealg.abigen_runtime_cmpstring", "slices.overlaps[stemma/snapshot.write]", "slices.overlaps[stemma/mvcc.chain]"], unfollowed := true, recurses := true, apart := false, narrowed := true }
def SnapshotRollbackHasNoEffectUptoSaid : Prop := snapshotRollbackHasNoEffectUptoRow.holds Try.pinned (OpenSpec.upto snapshotRollbackHasNoEffectSpec)

/-- 'stemkeep5.SnapshotReadsOwnWrites', WHERE WHAT IT READS IS OF BULK AT MOST 1048576: true; the input reads as it did. -/
def snapshotReadsOwnWritesUptoRow : OpenClaim := { program := "ytinmpodnfofmdaa", sum := "6d784ca5bf628d5cb9da99b94eb9c5fc5654d9aeafe88057fa2b496d593d271e", func := "stemma/stemkeep5.SnapshotReadsOwnWrites", spec := "snapshotReadsOwnWrites", inPlace := ["internal/bytealg.abigen_runtime_cmpstring", "slices.overlaps[stemma/snapshot.write]", "slices.overlaps[stemma/mvcc.chain]"], unfollowed := true, recurses := true, apart := false, narrowed := true }
def SnapshotReadsOwnWritesUptoSaid : Prop := snapshotReadsOwnWritesUptoRow.holds Try.pinned (OpenSpec.upto snapshotReadsOwnWritesSpec)

end Rows
end Go.Proofs.Ytinmpodnfofmdaa
