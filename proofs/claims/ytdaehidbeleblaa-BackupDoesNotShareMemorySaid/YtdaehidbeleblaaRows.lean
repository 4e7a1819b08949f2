/-
  No cell of these rows narrows 'for every input' (looked for: loops, veiled, ifaces, maps, wideKeys, modest, calm, conditions, laid).
  DERIVED. THE GIVEN ROWS OF THIS SEAT. 4 by the template 'for every input the law returns true; each argument reads behind the call as it read before'; 0 by the template 'total and deterministic' (their statements: YtdaehidbeleblaaTotals.lean).
  GIVEN WITH THE SEED: the statements are not yours to turn. If you find one false, say at which input.
  Laid BY PROGRAM, IN A SANDBOX (cutbox-rows.mjs): the forced cells as the released guide's own fill.sh prints them over the translation 3126e5f887cc250b… (all of the seat's roots in one cut). By AI agents, Wed Nov 11 2026. No macro, syntax, notation, axiom, sorry.
-/
import Derived.Test.YtdaehidbeleblaaChecked
import GoSem.Claim
import GoSem.ClaimJoined
import GoSem.ClaimMapViews
import Derived.JoinedTies
import Derived.KernelRfl
namespace Go.Proofs.Ytdaehidbeleblaa
/- THE CELL 'sum', in the pinned program and in every row, IS THE sha256 OF THE DUMP (.gsa) THAT YtdaehidbeleblaaProg.lean LOADS. Nothing in Lean hashes anything: it is a label: what it is worth is what the hold of that sum in a sandbox is worth. -/
noncomputable def Try.pinned : Pinned := { name := "ytdaehidbeleblaa", sum := "3126e5f887cc250bce871f40112c20ba483a2a9106b90cc25e9746a8b2a108b8", checked := Try.checked }
namespace Rows
def none {H : Type} : Left H := { results := [], args := [] }

/-- 'stemkeep5.BackupDoesNotShareMemory': WHATEVER THE INPUT: true; the input reads as it did. -/
def backupDoesNotShareMemorySpec : ChangeSpec := { name := "backupDoesNotShareMemory", fn := fun _ => fun
  | [d] => { results := [.lit (.bool true)], args := [d] }
  | _ => none }
def backupDoesNotShareMemoryRow : OpenClaim := { program := "ytdaehidbeleblaa", sum := "3126e5f887cc250bce871f40112c20ba483a2a9106b90cc25e9746a8b2a108b8", func := "stemma/stemkeep5.BackupDoesNotShareMemory", spec := "backupDoesNotShareMemory", inPlace := ["internal/bytealg.abigen_runtime_cmpstring", "slices.overlaps[stemma/mvcc.Record]"], unfollowed := true, recurses := true, apart := false }
def BackupDoesNotShareMemorySaid : Prop := backupDoesNotShareMemoryRow.holds Try.pinned (OpenSpec.ofChange backupDoesNotShareMemorySpec)

/-- ITS FALSE NEIGHBOUR: 'it returns false'. Refute it at one input. -/
def backupDoesNotShareMemoryWrong : ChangeSpec := { name := "backupDoesNotShareMemory", fn := fun _ => fun
  | [d] => { results := [.lit (.bool false)], args := [d] }
  | _ => none }
def BackupDoesNotShareMemoryWrongFalsely : Prop := backupDoesNotShareMemoryRow.holds Try.pinned (OpenSpec.ofChange backupDoesNotShareMemoryWrong)

/-- 'stemkeep5.BackupStoresUnchangedRecordsOnce': WHATEVER THE INPUT: true; the input reads as it did. -/
def backupStoresUnchangedRecordsOnceSpec : ChangeSpec := { name := "backupStoresUnchangedRecordsOnce", fn := fun _ => fun
  | [d] => { results := [.lit (.bool true)], args := [d] }
  | _ => none }
def backupStoresUnchangedRecordsOnceRow : OpenClaim := { program := "ytdaehidbeleblaa", sum := "3126e5f887cc250bce871f40112c20ba483a2a9106b90cc25e9746a8b2a108b8", func := "stemma/stemkeep5.BackupStoresUnchangedRecordsOnce", spec := "backupStoresUnchangedRecordsOnce", inPlace := ["internal/bytealg.abigen_runtime_cmpstring", "slices.overlaps[stemma/mvcc.Record]"], unfollowed := true, recurses := true, apart := false }
def BackupStoresUnchangedRecordsOnceSaid : Prop := backupStoresUnchangedRecordsOnceRow.holds Try.pinned (OpenSpec.ofChange backupStoresUnchangedRecordsOnceSpec)

/-- ITS FALSE NEIGHBOUR: 'it returns false'. Refute it at one input. -/
def backupStoresUnchangedRecordsOnceWrong : ChangeSpec := { name := "backupStoresUnchangedRecordsOnce", fn := fun _ => fun
  | [d] => { results := [.lit (.bool false)], args := [d] }
  | _ => none }
def BackupStoresUnchangedRecordsOnceWrongFalsely : Prop := backupStoresUnchangedRecordsOnceRow.holds Try.pinned (OpenSpec.ofChange backupStoresUnchangedRecordsOnceWrong)

/-- 'stemkeep5.BackupRestoresHistory': WHATEVER THE INPUT: true; the input reads as it did. -/
def backupRestoresHistorySpec : ChangeSpec := { name := "backupRestoresHistory", fn := fun _ => fun
  | [d1, d2] => { results := [.lit (.bool true)], args := [d1, d2] }
  | _ => none }
def backupRestoresHistoryRow : OpenClaim := { program := "ytdaehidbeleblaa", sum := "3126e5f887cc250bce871f40112c20ba483a2a9106b90cc25e9746a8b2a108b8", func := "stemma/stemkeep5.BackupRestoresHistory", spec := "backupRestoresHistory", inPlace := ["internal/bytealg.abigen_runtime_cmpstring", "slices.overlaps[stemma/mvcc.Record]"], unfollowed := true, recurses := true, apart := false }
def BackupRestoresHistorySaid : Prop := backupRestoresHistoryRow.holds Try.pinned (OpenSpec.ofChange backupRestoresHistorySpec)

/-- ITS FALSE NEIGHBOUR: 'it returns false'. Refute it at one input. -/
def backupRestoresHistoryWrong : ChangeSpec := { name := "backupRestoresHistory", fn := fun _ => fun
  | [d1, d2] => { results := [.lit (.bool false)], args := [d1, d2] }
  | _ => none }
def BackupRestoresHistoryWrongFalsely : Prop := backupRestoresHistoryRow.holds Try.pinned (OpenSpec.ofChange backupRestoresHistoryWrong)

/-- 'stemkeep5.BackupPrunePreservesLaterStates': WHATEVER THE INPUT: true; the input reads as it did. -/
def backupPrunePreservesLaterStatesSpec : ChangeSpec := { name := "backupPrunePreservesLaterStates", fn := fun _ => fun
  | [d1, d2, d3] => { results := [.lit (.bool true)], args := [d1, d2, d3] }
  | _ => none }
def backupPrunePreservesLaterStatesRow : OpenClaim := { program := "ytdaehidbeleblaa", sum := "3126e5f887cc250bce871f40112c20ba483a2a9106b90cc25e9746a8b2a108b8", func := "stemma/stemkeep5.BackupPrunePreservesLaterStates", spec := "backupPrunePreservesLaterStates", inPlace := ["internal/bytealg.abigen_runtime_cmpstring", "slices.overlaps[stemma/mvcc.Record]"], unfollowed := true, recurses := true, apart := false }
def BackupPrunePreservesLaterStatesSaid : Prop := backupPrunePreservesLaterStatesRow.holds Try.pinned (OpenSpec.ofChange backupPrunePreservesLaterStatesSpec)

/-- ITS FALSE NEIGHBOUR: 'it returns false'. Refute it at one input. -/
def backupPrunePreservesLaterStatesWrong : ChangeSpec := { name := "backupPrunePreservesLaterStates", fn := fun _ => fun
  | [d1, d2, d3] => { results := [.lit (.bool false)], args := [d1, d2, d3] }
  | _ => none }
def BackupPrunePreservesLaterStatesWrongFalsely : Prop := backupPrunePreservesLaterStatesRow.holds Try.pinned (OpenSpec.ofChange backupPrunePreservesLaterStatesWrong)

/- THE SECOND FORM. 'bulk': how many values and letters a reading holds, each counted each time it is reached (what is shared counts as often as it is met; a slice's spare places count too). A statement '..UptoSaid' is the law's where the arguments, and the package variables that the reading takes, are together of bulk at most 1048576: NARROWER than '..Said'. Prove '..Said' where nothing that the law and all that it calls make is longer than what came in: it says more and counts as full. Else prove '..UptoSaid'. A law counts once. -/
mutual
def uptoBulk {H : Type} : DataW H → Nat
  | .lit (.string bytes) => bytes.length + 1
  | .lit _ => 1
  | .nil => 1
  | .ptr d => uptoBulk d + 1
  | .slice elems spare => uptoBulkAll elems + uptoBulkAll spare + 1
  | .agg parts => uptoBulkAll parts + 1
  | .iface _ d => uptoBulk d + 1
  | .map entries => uptoBulkEntries entries + 1
  | .held _ => 1
def uptoBulkAll {H : Type} : List (DataW H) → Nat
  | [] => 0
  | d :: r => uptoBulk d + uptoBulkAll r
def uptoBulkEntries {H : Type} : List (Lit × DataW H) → Nat
  | [] => 0
  | x :: r => uptoBulkEntry x + uptoBulkEntries r
def uptoBulkEntry {H : Type} : Lit × DataW H → Nat
  | (.string bytes, d) => bytes.length + uptoBulk d + 1
  | (_, d) => uptoBulk d + 1
 end
def uptoSmall : (H : Type) → List (DataW H) → Bool := fun _ ds => decide (uptoBulkAll ds ≤ 1048576)
def OpenSpec.upto (s : _root_.Go.ChangeSpec) : _root_.Go.OpenSpec := { _root_.Go.OpenSpec.ofChange s with cond := some uptoSmall }

/-- 'stemkeep5.BackupDoesNotShareMemory', WHERE WHAT IT READS IS OF BULK AT MOST 1048576: true; the input reads as it did. -/
def backupDoesNotShareMemoryUptoRow : OpenClaim := { program := "ytdaehidbeleblaa", sum := "3126e5f887cc250bce871f40112c20ba483a2a9106b90cc25e9746a8b2a108b8", func := "stemma/stemkeep5.BackupDoesNotShareMemory", spec := "backupDoesNotShareMemory", inPlace := ["internal/bytealg.abigen_runtime_cmpstring", "slices.overlaps[stemma/mvcc.Record]"], unfollowed := true, recurses := true, apart := false, narrowed := true }
def BackupDoesNotShareMemoryUptoSaid : Prop := backupDoesNotShareMemoryUptoRow.holds Try.pinned (OpenSpec.upto backupDoesNotShareMemorySpec)

/-- 'stemkeep5.BackupStoresUnchangedRecordsOnce', WHERE WHAT IT READS IS OF BULK AT MOST 1048576: true; the input reads as it did. -/
def backupStoresUnchangedRecordsOnceUptoRow : OpenClaim := { program := "ytdaehidbeleblaa", sum := "3126e5f887cc250bce871f40112c20ba483a2a9106b90cc25e9746a8b2a108b8", func := "stemma/stemkeep5.BackupStoresUnchangedRecordsOnce", spec := "backupStoresUnchangedRecordsOnce", inPlace := ["internal/bytealg.abigen_runtime_cmpstring", "slices.overlaps[stemma/mvcc.Record]"], unfollowed := true, recurses := true, apart := false, narrowed := true }
def BackupStoresUnchangedRecordsOnceUptoSaid : Prop := backupStoresUnchangedRecordsOnceUptoRow.holds Try.pinned (OpenSpec.upto backupStoresUnchangedRecordsOnceSpec)

/-- 'stemkeep5.BackupRestoresHistory', WHERE WHAT IT READS IS OF BULK AT MOST 1048576: true; the input reads as it did. -/
def backupRestoresHistoryUptoRow : OpenClaim := { program := "ytdaehidbeleblaa", sum := "3126e5f887cc250bce871f40112c20ba483a2a9106b90cc25e9746a8b2a108b8", func := "stemma/stemkeep5.BackupRestoresHistory", spec := "backupRestoresHistory", inPlace := ["internal/bytealg.abigen_runtime_cmpstring", "slices.overlaps[stemma/mvcc.Record]"], unfollowed := true, recurses := true, apart := false, narrowed := true }
def BackupRestoresHistoryUptoSaid : Prop := backupRestoresHistoryUptoRow.holds Try.pinned (OpenSpec.upto backupRestoresHistorySpec)

/-- 'stemkeep5.BackupPrunePreservesLaterStates', WHERE WHAT IT READS IS OF BULK AT MOST 1048576: true; the input reads as it did. -/
def backupPrunePreservesLaterStatesUptoRow : OpenClaim := { program := "ytdaehidbeleblaa", sum := "3126e5f887cc250bce871f40112c20ba483a2a9106b90cc25e9746a8b2a108b8", func := "stemma/stemkeep5.BackupPrunePreservesLaterStates", spec := "backupPrunePreservesLaterStates", inPlace := ["internal/bytealg.abigen_runtime_cmpstring", "slices.overlaps[stemma/mvcc.Record]"], unfollowed := true, recurses := true, apart := false, narrowed := true }
def BackupPrunePreservesLaterStatesUptoSaid : Prop := backupPrunePreservesLaterStatesUptoRow.holds Try.pinned (OpenSpec.upto backupPrunePreservesLaterStatesSpec)

end Rows
end Go.Proofs.Ytdaehidbeleblaa
