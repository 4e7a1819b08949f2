/-
  No cell of these rows narrows 'for every input' (looked for: loops, veiled, ifaces, maps, wideKeys, modest, calm, conditions, laid).
  DERIVED. THE GIVEN ROWS OF THIS SEAT. 8 by the template 'for every input the law returns true; each argument reads behind the call as it read before'; 0 by the template 'total and deterministic' (their statements: YtoelcnfgjfccgaaTotals.lean).
  GIVEN WITH THE SEED: the statements are not yours to turn. If you find one false, say at which input.
  Laid BY PROGRAM, IN A SANDBOX (cutbox-rows.mjs): the forced cells as the released guide's own fill.sh prints them over the translation ed4947b8bb618f52… (all of the seat's roots in one cut). By AI agents, Wed Nov 11 2026. No macro, syntax, notation, axiom, sorry.
-/
import Derived.Test.YtoelcnfgjfccgaaChecked
import GoSem.Claim
import GoSem.ClaimJoined
import GoSem.ClaimMapViews
import Derived.JoinedTies
import Derived.KernelRfl
namespace Go.Proofs.Ytoelcnfgjfccgaa
/- THE CELL 'sum', in the pinned program and in every row, IS THE sha256 OF THE DUMP (.gsa) THAT YtoelcnfgjfccgaaProg.lean LOADS. Nothing in Lean hashes anything: it is a label: what it is worth is what the hold of that sum in a sandbox is worth. -/
noncomputable def Try.pinned : Pinned := { name := "ytoelcnfgjfccgaa", sum := "ed4947b8bb618f52078dc2bd587519670ad7636d33853a6c5e5613f31156d641", checked := Try.checked }
namespace Rows
def none {H : Type} : Left H := { results := [], args := [] }

/-- 'stemkeep5.RecoveryRestoresCommittedState': WHATEVER THE INPUT: true; the input reads as it did. -/
def recoveryRestoresCommittedStateSpec : ChangeSpec := { name := "recoveryRestoresCommittedState", fn := fun _ => fun
  | [d] => { results := [.lit (.bool true)], args := [d] }
  | _ => none }
def recoveryRestoresCommittedStateRow : OpenClaim := { program := "ytoelcnfgjfccgaa", sum := "ed4947b8bb618f52078dc2bd587519670ad7636d33853a6c5e5613f31156d641", func := "stemma/stemkeep5.RecoveryRestoresCommittedState", spec := "recoveryRestoresCommittedState", unfollowed := true, recurses := true, apart := false }
def RecoveryRestoresCommittedStateSaid : Prop := recoveryRestoresCommittedStateRow.holds Try.pinned (OpenSpec.ofChange recoveryRestoresCommittedStateSpec)

/-- ITS FALSE NEIGHBOUR: 'it returns false'. Refute it at one input. -/
def recoveryRestoresCommittedStateWrong : ChangeSpec := { name := "recoveryRestoresCommittedState", fn := fun _ => fun
  | [d] => { results := [.lit (.bool false)], args := [d] }
  | _ => none }
def RecoveryRestoresCommittedStateWrongFalsely : Prop := recoveryRestoresCommittedStateRow.holds Try.pinned (OpenSpec.ofChange recoveryRestoresCommittedStateWrong)

/-- 'stemkeep5.RecoveryRollbackRestoresValues': WHATEVER THE INPUT: true; the input reads as it did. -/
def recoveryRollbackRestoresValuesSpec : ChangeSpec := { name := "recoveryRollbackRestoresValues", fn := fun _ => fun
  | [d1, d2] => { results := [.lit (.bool true)], args := [d1, d2] }
  | _ => none }
def recoveryRollbackRestoresValuesRow : OpenClaim := { program := "ytoelcnfgjfccgaa", sum := "ed4947b8bb618f52078dc2bd587519670ad7636d33853a6c5e5613f31156d641", func := "stemma/stemkeep5.RecoveryRollbackRestoresValues", spec := "recoveryRollbackRestoresValues", unfollowed := true, recurses := true, apart := false }
def RecoveryRollbackRestoresValuesSaid : Prop := recoveryRollbackRestoresValuesRow.holds Try.pinned (OpenSpec.ofChange recoveryRollbackRestoresValuesSpec)

/-- ITS FALSE NEIGHBOUR: 'it returns false'. Refute it at one input. -/
def recoveryRollbackRestoresValuesWrong : ChangeSpec := { name := "recoveryRollbackRestoresValues", fn := fun _ => fun
  | [d1, d2] => { results := [.lit (.bool false)], args := [d1, d2] }
  | _ => none }
def RecoveryRollbackRestoresValuesWrongFalsely : Prop := recoveryRollbackRestoresValuesRow.holds Try.pinned (OpenSpec.ofChange recoveryRollbackRestoresValuesWrong)

/-- 'stemkeep5.RecoveryIsIdempotent': WHATEVER THE INPUT: true; the input reads as it did. -/
def recoveryIsIdempotentSpec : ChangeSpec := { name := "recoveryIsIdempotent", fn := fun _ => fun
  | [d] => { results := [.lit (.bool true)], args := [d] }
  | _ => none }
def recoveryIsIdempotentRow : OpenClaim := { program := "ytoelcnfgjfccgaa", sum := "ed4947b8bb618f52078dc2bd587519670ad7636d33853a6c5e5613f31156d641", func := "stemma/stemkeep5.RecoveryIsIdempotent", spec := "recoveryIsIdempotent", unfollowed := true, recurses := true, apart := false }
def RecoveryIsIdempotentSaid : Prop := recoveryIsIdempotentRow.holds Try.pinned (OpenSpec.ofChange recoveryIsIdempotentSpec)

/-- ITS FALSE NEIGHBOUR: 'it returns false'. Refute it at one input. -/
def recoveryIsIdempotentWrong : ChangeSpec := { name := "recoveryIsIdempotent", fn := fun _ => fun
  | [d] => { results := [.lit (.bool false)], args := [d] }
  | _ => none }
def RecoveryIsIdempotentWrongFalsely : Prop := recoveryIsIdempotentRow.holds Try.pinned (OpenSpec.ofChange recoveryIsIdempotentWrong)

/-- 'stemkeep5.SavepointEntriesAreSorted': WHATEVER THE INPUT: true; the input reads as it did. -/
def savepointEntriesAreSortedSpec : ChangeSpec := { name := "savepointEntriesAreSorted", fn := fun _ => fun
  | [d] => { results := [.lit (.bool true)], args := [d] }
  | _ => none }
def savepointEntriesAreSortedRow : OpenClaim := { program := "ytoelcnfgjfccgaa", sum := "ed4947b8bb618f52078dc2bd587519670ad7636d33853a6c5e5613f31156d641", func := "stemma/stemkeep5.SavepointEntriesAreSorted", spec := "savepointEntriesAreSorted", inPlace := ["internal/bytealg.abigen_runtime_cmpstring", "slices.overlaps[stemma/savepoint.Entry]"], unfollowed := true, recurses := true, apart := false }
def SavepointEntriesAreSortedSaid : Prop := savepointEntriesAreSortedRow.holds Try.pinned (OpenSpec.ofChange savepointEntriesAreSortedSpec)

/-- ITS FALSE NEIGHBOUR: 'it returns false'. Refute it at one input. -/
def savepointEntriesAreSortedWrong : ChangeSpec := { name := "savepointEntriesAreSorted", fn := fun _ => fun
  | [d] => { results := [.lit (.bool false)], args := [d] }
  | _ => none }
def SavepointEntriesAreSortedWrongFalsely : Prop := savepointEntriesAreSortedRow.holds Try.pinned (OpenSpec.ofChange savepointEntriesAreSortedWrong)

/-- 'stemkeep5.SavepointRollbackRestoresEntries': WHATEVER THE INPUT: true; the input reads as it did. -/
def savepointRollbackRestoresEntriesSpec : ChangeSpec := { name := "savepointRollbackRestoresEntries", fn := fun _ => fun
  | [d1, d2] => { results := [.lit (.bool true)], args := [d1, d2] }
  | _ => none }
def savepointRollbackRestoresEntriesRow : OpenClaim := { program := "ytoelcnfgjfccgaa", sum := "ed4947b8bb618f52078dc2bd587519670ad7636d33853a6c5e5613f31156d641", func := "stemma/stemkeep5.SavepointRollbackRestoresEntries", spec := "savepointRollbackRestoresEntries", inPlace := ["internal/bytealg.abigen_runtime_cmpstring", "slices.overlaps[stemma/savepoint.Entry]"], unfollowed := true, recurses := true, apart := false }
def SavepointRollbackRestoresEntriesSaid : Prop := savepointRollbackRestoresEntriesRow.holds Try.pinned (OpenSpec.ofChange savepointRollbackRestoresEntriesSpec)

/-- ITS FALSE NEIGHBOUR: 'it returns false'. Refute it at one input. -/
def savepointRollbackRestoresEntriesWrong : ChangeSpec := { name := "savepointRollbackRestoresEntries", fn := fun _ => fun
  | [d1, d2] => { results := [.lit (.bool false)], args := [d1, d2] }
  | _ => none }
def SavepointRollbackRestoresEntriesWrongFalsely : Prop := savepointRollbackRestoresEntriesRow.holds Try.pinned (OpenSpec.ofChange savepointRollbackRestoresEntriesWrong)

/-- 'stemkeep5.SavepointDoNests': WHATEVER THE INPUT: true; the input reads as it did. -/
def savepointDoNestsSpec : ChangeSpec := { name := "savepointDoNests", fn := fun _ => fun
  | [d1, d2, d3] => { results := [.lit (.bool true)], args := [d1, d2, d3] }
  | _ => none }
def savepointDoNestsRow : OpenClaim := { program := "ytoelcnfgjfccgaa", sum := "ed4947b8bb618f52078dc2bd587519670ad7636d33853a6c5e5613f31156d641", func := "stemma/stemkeep5.SavepointDoNests", spec := "savepointDoNests", inPlace := ["internal/bytealg.abigen_runtime_cmpstring", "slices.overlaps[stemma/savepoint.Entry]"], unfollowed := true, recurses := true, apart := false }
def SavepointDoNestsSaid : Prop := savepointDoNestsRow.holds Try.pinned (OpenSpec.ofChange savepointDoNestsSpec)

/-- ITS FALSE NEIGHBOUR: 'it returns false'. Refute it at one input. -/
def savepointDoNestsWrong : ChangeSpec := { name := "savepointDoNests", fn := fun _ => fun
  | [d1, d2, d3] => { results := [.lit (.bool false)], args := [d1, d2, d3] }
  | _ => none }
def SavepointDoNestsWrongFalsely : Prop := savepointDoNestsRow.holds Try.pinned (OpenSpec.ofChange savepointDoNestsWrong)

/-- 'stemkeep5.SavepointReleaseKeepsEntries': WHATEVER THE INPUT: true; the input reads as it did. -/
def savepointReleaseKeepsEntriesSpec : ChangeSpec := { name := "savepointReleaseKeepsEntries", fn := fun _ => fun
  | [d1, d2] => { results := [.lit (.bool true)], args := [d1, d2] }
  | _ => none }
def savepointReleaseKeepsEntriesRow : OpenClaim := { program := "ytoelcnfgjfccgaa", sum := "ed4947b8bb618f52078dc2bd587519670ad7636d33853a6c5e5613f31156d641", func := "stemma/stemkeep5.SavepointReleaseKeepsEntries", spec := "savepointReleaseKeepsEntries", inPlace := ["internal/bytealg.abigen_runtime_cmpstring", "slices.overlaps[stemma/savepoint.Entry]"], unfollowed := true, recurses := true, apart := false }
def SavepointReleaseKeepsEntriesSaid : Prop := savepointReleaseKeepsEntriesRow.holds Try.pinned (OpenSpec.ofChange savepointReleaseKeepsEntriesSpec)

/-- ITS FALSE NEIGHBOUR: 'it returns false'. Refute it at one input. -/
def savepointReleaseKeepsEntriesWrong : ChangeSpec := { name := "savepointReleaseKeepsEntries", fn := fun _ => fun
  | [d1, d2] => { results := [.lit (.bool false)], args := [d1, d2] }
  | _ => none }
def SavepointReleaseKeepsEntriesWrongFalsely : Prop := savepointReleaseKeepsEntriesRow.holds Try.pinned (OpenSpec.ofChange savepointReleaseKeepsEntriesWrong)

/-- 'stemkeep5.SavepointDoUndoesFailures': WHATEVER THE INPUT: true; the input reads as it did. -/
def savepointDoUndoesFailuresSpec : ChangeSpec := { name := "savepointDoUndoesFailures", fn := fun _ => fun
  | [d1, d2, d3, d4] => { results := [.lit (.bool true)], args := [d1, d2, d3, d4] }
  | _ => none }
def savepointDoUndoesFailuresRow : OpenClaim := { program := "ytoelcnfgjfccgaa", sum := "ed4947b8bb618f52078dc2bd587519670ad7636d33853a6c5e5613f31156d641", func := "stemma/stemkeep5.SavepointDoUndoesFailures", spec := "savepointDoUndoesFailures", inPlace := ["internal/bytealg.abigen_runtime_cmpstring", "slices.overlaps[stemma/savepoint.Entry]"], unfollowed := true, recurses := true, apart := false }
def SavepointDoUndoesFailuresSaid : Prop := savepointDoUndoesFailuresRow.holds Try.pinned (OpenSpec.ofChange savepointDoUndoesFailuresSpec)

/-- ITS FALSE NEIGHBOUR: 'it returns false'. Refute it at one input. -/
def savepointDoUndoesFailuresWrong : ChangeSpec := { name := "savepointDoUndoesFailures", fn := fun _ => fun
  | [d1, d2, d3, d4] => { results := [.lit (.bool false)], args := [d1, d2, d3, d4] }
  | _ => none }
def SavepointDoUndoesFailuresWrongFalsely : Prop := savepointDoUndoesFailuresRow.holds Try.pinned (OpenSpec.ofChange savepointDoUndoesFailuresWrong)

/- THE SECOND FORM. 'bulk': how many values and letters a reading holds, each counted each time it is reached (what is shared counts as often as it is met; a slice's spare places count too). A statement '..UptoSaid' is the law's where the arguments, and the package variables that the reading takes, are together of bulk at most 1048576: NARROWER than '..Said'. Prove '..Said' where nothing that the law and all that it calls make is longer than what came in: it says more and counts as full. Else prove '..UptoSaid'. A law counts once. -/
mutual
def uptoBulk {H : Type} : DataW H → Nat
  | .lit (.string bytes) => bytes.length + 1
  | .lit _ => 1
  | .nil => 1
  | .ptr d => uptoBulk d + 1
  | .slice elems spare => uptoBulkAll elems + uptoBulkAll spare + 1
  | .agg parts => uptoBulkAll parts + 1
  | .iface _ d => uptoBulk d + 1
  | .map entries => uptoBulkEntries entries + 1
  | .held _ => 1
def uptoBulkAll {H : Type} : List (DataW H) → Nat
  | [] => 0
  | d :: r => uptoBulk d + uptoBulkAll r
def uptoBulkEntries {H : Type} : List (Lit × DataW H) → Nat
  | [] => 0
  | x :: r => uptoBulkEntry x + uptoBulkEntries r
def uptoBulkEntry {H : Type} : Lit × DataW H → Nat
  | (.string bytes, d) => bytes.length + uptoBulk d + 1
  | (_, d) => uptoBulk d + 1
 end
def uptoSmall : (H : Type) → List (DataW H) → Bool := fun _ ds => decide (uptoBulkAll ds ≤ 1048576)
def OpenSpec.upto (s : _root_.Go.ChangeSpec) : _root_.Go.OpenSpec := { _root_.Go.OpenSpec.ofChange s with cond := some uptoSmall }

/-- 'stemkeep5.RecoveryRestoresCommittedState', WHERE WHAT IT READS IS OF BULK AT MOST 1048576: true; the input reads as it did. -/
def recoveryRestoresCommittedStateUptoRow : OpenClaim := { program := "ytoelcnfgjfccgaa", sum := "ed4947b8bb618f52078dc2bd587519670ad7636d33853a6c5e5613f31156d641", func := "stemma/stemkeep5.RecoveryRestoresCommittedState", spec := "recoveryRestoresCommittedState", unfollowed := true, recurses := true, apart := false, narrowed := true }
def RecoveryRestoresCommittedStateUptoSaid : Prop := recoveryRestoresCommittedStateUptoRow.holds Try.pinned (OpenSpec.upto recoveryRestoresCommittedStateSpec)

/-- 'stemkeep5.RecoveryRollbackRestoresValues', WHERE WHAT IT READS IS OF BULK AT MOST 1048576: true; the input reads as it did. -/
def recoveryRollbackRestoresValuesUptoRow : OpenClaim := { program := "ytoelcnfgjfccgaa", sum := "ed4947b8bb618f52078dc2bd587519670ad7636d33853a6c5e5613f31156d641", func := "stemma/stemkeep5.RecoveryRollbackRestoresValues", spec := "recoveryRollbackRestoresValues", unfollowed := true, recurses := true, apart := false, narrowed := true }
def RecoveryRollbackRestoresValuesUptoSaid : Prop := recoveryRollbackRestoresValuesUptoRow.holds Try.pinned (OpenSpec.upto recoveryRollbackRestoresValuesSpec)

/-- 'stemkeep5.RecoveryIsIdempotent', WHERE WHAT IT READS IS OF BULK AT MOST 1048576: true; the input reads as it did. -/
def recoveryIsIdempotentUptoRow : OpenClaim := { program := "ytoelcnfgjfccgaa", sum := "ed4947b8bb618f52078dc2bd587519670ad7636d33853a6c5e5613f31156d641", func := "stemma/stemkeep5.RecoveryIsIdempotent", spec := "recoveryIsIdempotent", unfollowed := true, recurses := true, apart := false, narrowed := true }
def RecoveryIsIdempotentUptoSaid : Prop := recoveryIsIdempotentUptoRow.holds Try.pinned (OpenSpec.upto recoveryIsIdempotentSpec)

/-- 'stemkeep5.SavepointEntriesAreSorted', WHERE WHAT IT READS IS OF BULK AT MOST 1048576: true; the input reads as it did. -/
def savepointEntriesAreSortedUptoRow : OpenClaim := { program := "ytoelcnfgjfccgaa", sum := "ed4947b8bb618f52078dc2bd587519670ad7636d33853a6c5e5613f31156d641", func := "stemma/stemkeep5.SavepointEntriesAreSorted", spec := "savepointEntriesAreSorted", inPlace := ["internal/bytealg.abigen_runtime_cmpstring", "slices.overlaps[stemma/savepoint.Entry]"], unfollowed := true, recurses := true, apart := false, narrowed := true }
def SavepointEntriesAreSortedUptoSaid : Prop := savepointEntriesAreSortedUptoRow.holds Try.pinned (OpenSpec.upto savepointEntriesAreSortedSpec)

/-- 'stemkeep5.SavepointRollbackRestoresEntries', WHERE WHAT IT READS IS OF BULK AT MOST 1048576: true; the input reads as it did. -/
def savepointRollbackRestoresEntriesUptoRow : OpenClaim := { program := "ytoelcnfgjfccgaa", sum := "ed4947b8bb618f52078dc2bd587519670ad7636d33853a6c5e5613f31156d641", func := "stemma/stemkeep5.SavepointRollbackRestoresEntries", spec := "savepointRollbackRestoresEntries", inPlace := ["internal/bytealg.abigen_runtime_cmpstring", "slices.overlaps[stemma/savepoint.Entry]"], unfollowed := true, recurses := true, apart := false, narrowed := true }
def SavepointRollbackRestoresEntriesUptoSaid : Prop := savepointRollbackRestoresEntriesUptoRow.holds Try.pinned (OpenSpec.upto savepointRollbackRestoresEntriesSpec)

/-- 'stemkeep5.SavepointDoNests', WHERE WHAT IT READS IS OF BULK AT MOST 1048576: true; the input reads as it did. -/
def savepointDoNestsUptoRow : OpenClaim := { program := "ytoelcnfgjfccgaa", sum := "ed4947b8bb618f52078dc2bd587519670ad7636d33853a6c5e5613f31156d641", func := "stemma/stemkeep5.SavepointDoNests", spec := "savepointDoNests", inPlace := ["internal/bytealg.abigen_runtime_cmpstring", "slices.overlaps[stemma/savepoint.Entry]"], unfollowed := true, recurses := true, apart := false, narrowed := true }
def SavepointDoNestsUptoSaid : Prop := savepointDoNestsUptoRow.holds Try.pinned (OpenSpec.upto savepointDoNestsSpec)

/-- 'stemkeep5.SavepointReleaseKeepsEntries', WHERE WHAT IT READS IS OF BULK AT MOST 1048576: true; the input reads as it did. -/
def savepointReleaseKeepsEntriesUptoRow : OpenClaim := { program := "ytoelcnfgjfccgaa", sum := "ed4947b8bb618f52078dc2bd587519670ad7636d33853a6c5e5613f31156d641", func := "stemma/stemkeep5.SavepointReleaseKeepsEntries", spec := "savepointReleaseKeepsEntries", inPlace := ["internal/bytealg.abigen_runtime_cmpstring", "slices.overlaps[stemma/savepoint.Entry]"], unfollowed := true, recurses := true, apart := false, narrowed := true }
def SavepointReleaseKeepsEntriesUptoSaid : Prop := savepointReleaseKeepsEntriesUptoRow.holds Try.pinned (OpenSpec.upto savepointReleaseKeepsEntriesSpec)

/-- 'stemkeep5.SavepointDoUndoesFailures', WHERE WHAT IT READS IS OF BULK AT MOST 1048576: true; the input reads as it did. -/
def savepointDoUndoesFailuresUptoRow : OpenClaim := { program := "ytoelcnfgjfccgaa", sum := "ed4947b8bb618f52078dc2bd587519670ad7636d33853a6c5e5613f31156d641", func := "stemma/stemkeep5.SavepointDoUndoesFailures", spec := "savepointDoUndoesFailures", inPlace := ["internal/bytealg.abigen_runtime_cmpstring", "slices.overlaps[stemma/savepoint.Entry]"], unfollowed := true, recurses := true, apart := false, narrowed := true }
def SavepointDoUndoesFailuresUptoSaid : Prop := savepointDoUndoesFailuresUptoRow.holds Try.pinned (OpenSpec.upto savepointDoUndoesFailuresSpec)

end Rows
end Go.Proofs.Ytoelcnfgjfccgaa
