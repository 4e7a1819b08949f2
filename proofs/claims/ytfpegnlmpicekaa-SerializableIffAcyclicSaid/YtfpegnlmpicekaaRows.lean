/-
  No cell of these rows narrows 'for every input' (looked for: loops, veiled, ifaces, maps, wideKeys, modest, calm, conditions, laid).
  DERIVED. THE GIVEN ROWS OF THIS SEAT. 8 by the template 'for every input the law returns true; each argument reads behind the call as it read before'; 0 by the template 'total and deterministic' (their statements: YtfpegnlmpicekaaTotals.lean).
  GIVEN WITH THE SEED: the statements are not yours to turn. If you find one false, say at which input.
  Laid BY PROGRAM, IN A SANDBOX (cutbox-rows.mjs): the forced cells as the released guide's own fill.sh prints them over the translation 46f2560b5afc510b… (all of the seat's roots in one cut). By AI agents, Wed Nov 11 2026. No macro, syntax, notation, axiom, sorry.
-/
import Derived.Test.YtfpegnlmpicekaaChecked
import GoSem.Claim
import GoSem.ClaimJoined
import GoSem.ClaimMapViews
import Derived.JoinedTies
import Derived.KernelRfl
namespace Go.Proofs.Ytfpegnlmpicekaa
/- THE CELL 'sum', in the pinned program and in every row, IS THE sha256 OF THE DUMP (.gsa) THAT YtfpegnlmpicekaaProg.lean LOADS. Nothing in Lean hashes anything: it is a label: what it is worth is what the hold of that sum in a sandbox is worth. -/
noncomputable def Try.pinned : Pinned := { name := "ytfpegnlmpicekaa", sum := "46f2560b5afc510bc6e0400edf291fa05490f799d6148159901b1b1d87f711c7", checked := Try.checked }
namespace Rows
def none {H : Type} : Left H := { results := [], args := [] }

/-- 'stemkeep5.SSIAdmitsSerialTransactions': WHATEVER THE INPUT: true; the input reads as it did. -/
def sSIAdmitsSerialTransactionsSpec : ChangeSpec := { name := "sSIAdmitsSerialTransactions", fn := fun _ => fun
  | [d] => { results := [.lit (.bool true)], args := [d] }
  | _ => none }
def sSIAdmitsSerialTransactionsRow : OpenClaim := { program := "ytfpegnlmpicekaa", sum := "46f2560b5afc510bc6e0400edf291fa05490f799d6148159901b1b1d87f711c7", func := "stemma/stemkeep5.SSIAdmitsSerialTransactions", spec := "sSIAdmitsSerialTransactions", unfollowed := true, recurses := true, apart := false }
def SSIAdmitsSerialTransactionsSaid : Prop := sSIAdmitsSerialTransactionsRow.holds Try.pinned (OpenSpec.ofChange sSIAdmitsSerialTransactionsSpec)

/-- ITS FALSE NEIGHBOUR: 'it returns false'. Refute it at one input. -/
def sSIAdmitsSerialTransactionsWrong : ChangeSpec := { name := "sSIAdmitsSerialTransactions", fn := fun _ => fun
  | [d] => { results := [.lit (.bool false)], args := [d] }
  | _ => none }
def SSIAdmitsSerialTransactionsWrongFalsely : Prop := sSIAdmitsSerialTransactionsRow.holds Try.pinned (OpenSpec.ofChange sSIAdmitsSerialTransactionsWrong)

/-- 'stemkeep5.SSIAdmitsDisjointTransactions': WHATEVER THE INPUT: true; the input reads as it did. -/
def sSIAdmitsDisjointTransactionsSpec : ChangeSpec := { name := "sSIAdmitsDisjointTransactions", fn := fun _ => fun
  | [d] => { results := [.lit (.bool true)], args := [d] }
  | _ => none }
def sSIAdmitsDisjointTransactionsRow : OpenClaim := { program := "ytfpegnlmpicekaa", sum := "46f2560b5afc510bc6e0400edf291fa05490f799d6148159901b1b1d87f711c7", func := "stemma/stemkeep5.SSIAdmitsDisjointTransactions", spec := "sSIAdmitsDisjointTransactions", unfollowed := true, recurses := true, apart := false }
def SSIAdmitsDisjointTransactionsSaid : Prop := sSIAdmitsDisjointTransactionsRow.holds Try.pinned (OpenSpec.ofChange sSIAdmitsDisjointTransactionsSpec)

/-- ITS FALSE NEIGHBOUR: 'it returns false'. Refute it at one input. -/
def sSIAdmitsDisjointTransactionsWrong : ChangeSpec := { name := "sSIAdmitsDisjointTransactions", fn := fun _ => fun
  | [d] => { results := [.lit (.bool false)], args := [d] }
  | _ => none }
def SSIAdmitsDisjointTransactionsWrongFalsely : Prop := sSIAdmitsDisjointTransactionsRow.holds Try.pinned (OpenSpec.ofChange sSIAdmitsDisjointTransactionsWrong)

/-- 'stemkeep5.SSIDecisionsDependOnlyOnThePast': WHATEVER THE INPUT: true; the input reads as it did. -/
def sSIDecisionsDependOnlyOnThePastSpec : ChangeSpec := { name := "sSIDecisionsDependOnlyOnThePast", fn := fun _ => fun
  | [d1, d2] => { results := [.lit (.bool true)], args := [d1, d2] }
  | _ => none }
def sSIDecisionsDependOnlyOnThePastRow : OpenClaim := { program := "ytfpegnlmpicekaa", sum := "46f2560b5afc510bc6e0400edf291fa05490f799d6148159901b1b1d87f711c7", func := "stemma/stemkeep5.SSIDecisionsDependOnlyOnThePast", spec := "sSIDecisionsDependOnlyOnThePast", unfollowed := true, recurses := true, apart := false }
def SSIDecisionsDependOnlyOnThePastSaid : Prop := sSIDecisionsDependOnlyOnThePastRow.holds Try.pinned (OpenSpec.ofChange sSIDecisionsDependOnlyOnThePastSpec)

/-- ITS FALSE NEIGHBOUR: 'it returns false'. Refute it at one input. -/
def sSIDecisionsDependOnlyOnThePastWrong : ChangeSpec := { name := "sSIDecisionsDependOnlyOnThePast", fn := fun _ => fun
  | [d1, d2] => { results := [.lit (.bool false)], args := [d1, d2] }
  | _ => none }
def SSIDecisionsDependOnlyOnThePastWrongFalsely : Prop := sSIDecisionsDependOnlyOnThePastRow.holds Try.pinned (OpenSpec.ofChange sSIDecisionsDependOnlyOnThePastWrong)

/-- 'stemkeep5.SwappingIndependentOperationsPreservesConflicts': WHATEVER THE INPUT: true; the input reads as it did. -/
def swappingIndependentOperationsPreservesConflictsSpec : ChangeSpec := { name := "swappingIndependentOperationsPreservesConflicts", fn := fun _ => fun
  | [d1, d2] => { results := [.lit (.bool true)], args := [d1, d2] }
  | _ => none }
def swappingIndependentOperationsPreservesConflictsRow : OpenClaim := { program := "ytfpegnlmpicekaa", sum := "46f2560b5afc510bc6e0400edf291fa05490f799d6148159901b1b1d87f711c7", func := "stemma/stemkeep5.SwappingIndependentOperationsPreservesConflicts", spec := "swappingIndependentOperationsPreservesConflicts", unfollowed := true, recurses := true, apart := false }
def SwappingIndependentOperationsPreservesConflictsSaid : Prop := swappingIndependentOperationsPreservesConflictsRow.holds Try.pinned (OpenSpec.ofChange swappingIndependentOperationsPreservesConflictsSpec)

/-- ITS FALSE NEIGHBOUR: 'it returns false'. Refute it at one input. -/
def swappingIndependentOperationsPreservesConflictsWrong : ChangeSpec := { name := "swappingIndependentOperationsPreservesConflicts", fn := fun _ => fun
  | [d1, d2] => { results := [.lit (.bool false)], args := [d1, d2] }
  | _ => none }
def SwappingIndependentOperationsPreservesConflictsWrongFalsely : Prop := swappingIndependentOperationsPreservesConflictsRow.holds Try.pinned (OpenSpec.ofChange swappingIndependentOperationsPreservesConflictsWrong)

/-- 'stemkeep5.SerialHistoriesAreSerializable': WHATEVER THE INPUT: true; the input reads as it did. -/
def serialHistoriesAreSerializableSpec : ChangeSpec := { name := "serialHistoriesAreSerializable", fn := fun _ => fun
  | [d1, d2] => { results := [.lit (.bool true)], args := [d1, d2] }
  | _ => none }
def serialHistoriesAreSerializableRow : OpenClaim := { program := "ytfpegnlmpicekaa", sum := "46f2560b5afc510bc6e0400edf291fa05490f799d6148159901b1b1d87f711c7", func := "stemma/stemkeep5.SerialHistoriesAreSerializable", spec := "serialHistoriesAreSerializable", unfollowed := true, recurses := true, apart := false }
def SerialHistoriesAreSerializableSaid : Prop := serialHistoriesAreSerializableRow.holds Try.pinned (OpenSpec.ofChange serialHistoriesAreSerializableSpec)

/-- ITS FALSE NEIGHBOUR: 'it returns false'. Refute it at one input. -/
def serialHistoriesAreSerializableWrong : ChangeSpec := { name := "serialHistoriesAreSerializable", fn := fun _ => fun
  | [d1, d2] => { results := [.lit (.bool false)], args := [d1, d2] }
  | _ => none }
def SerialHistoriesAreSerializableWrongFalsely : Prop := serialHistoriesAreSerializableRow.holds Try.pinned (OpenSpec.ofChange serialHistoriesAreSerializableWrong)

/-- 'stemkeep5.SSIAdmittedTransactionsAreSerializable': WHATEVER THE INPUT: true; the input reads as it did. -/
def sSIAdmittedTransactionsAreSerializableSpec : ChangeSpec := { name := "sSIAdmittedTransactionsAreSerializable", fn := fun _ => fun
  | [d] => { results := [.lit (.bool true)], args := [d] }
  | _ => none }
def sSIAdmittedTransactionsAreSerializableRow : OpenClaim := { program := "ytfpegnlmpicekaa", sum := "46f2560b5afc510bc6e0400edf291fa05490f799d6148159901b1b1d87f711c7", func := "stemma/stemkeep5.SSIAdmittedTransactionsAreSerializable", spec := "sSIAdmittedTransactionsAreSerializable", unfollowed := true, recurses := true, apart := false }
def SSIAdmittedTransactionsAreSerializableSaid : Prop := sSIAdmittedTransactionsAreSerializableRow.holds Try.pinned (OpenSpec.ofChange sSIAdmittedTransactionsAreSerializableSpec)

/-- ITS FALSE NEIGHBOUR: 'it returns false'. Refute it at one input. -/
def sSIAdmittedTransactionsAreSerializableWrong : ChangeSpec := { name := "sSIAdmittedTransactionsAreSerializable", fn := fun _ => fun
  | [d] => { results := [.lit (.bool false)], args := [d] }
  | _ => none }
def SSIAdmittedTransactionsAreSerializableWrongFalsely : Prop := sSIAdmittedTransactionsAreSerializableRow.holds Try.pinned (OpenSpec.ofChange sSIAdmittedTransactionsAreSerializableWrong)

/-- 'stemkeep5.SerialOrderIsEquivalent': WHATEVER THE INPUT: true; the input reads as it did. -/
def serialOrderIsEquivalentSpec : ChangeSpec := { name := "serialOrderIsEquivalent", fn := fun _ => fun
  | [d] => { results := [.lit (.bool true)], args := [d] }
  | _ => none }
def serialOrderIsEquivalentRow : OpenClaim := { program := "ytfpegnlmpicekaa", sum := "46f2560b5afc510bc6e0400edf291fa05490f799d6148159901b1b1d87f711c7", func := "stemma/stemkeep5.SerialOrderIsEquivalent", spec := "serialOrderIsEquivalent", unfollowed := true, recurses := true, apart := false }
def SerialOrderIsEquivalentSaid : Prop := serialOrderIsEquivalentRow.holds Try.pinned (OpenSpec.ofChange serialOrderIsEquivalentSpec)

/-- ITS FALSE NEIGHBOUR: 'it returns false'. Refute it at one input. -/
def serialOrderIsEquivalentWrong : ChangeSpec := { name := "serialOrderIsEquivalent", fn := fun _ => fun
  | [d] => { results := [.lit (.bool false)], args := [d] }
  | _ => none }
def SerialOrderIsEquivalentWrongFalsely : Prop := serialOrderIsEquivalentRow.holds Try.pinned (OpenSpec.ofChange serialOrderIsEquivalentWrong)

/-- 'stemkeep5.SerializableIffAcyclic': WHATEVER THE INPUT: true; the input reads as it did. -/
def serializableIffAcyclicSpec : ChangeSpec := { name := "serializableIffAcyclic", fn := fun _ => fun
  | [d] => { results := [.lit (.bool true)], args := [d] }
  | _ => none }
def serializableIffAcyclicRow : OpenClaim := { program := "ytfpegnlmpicekaa", sum := "46f2560b5afc510bc6e0400edf291fa05490f799d6148159901b1b1d87f711c7", func := "stemma/stemkeep5.SerializableIffAcyclic", spec := "serializableIffAcyclic", unfollowed := true, recurses := true, apart := false }
def SerializableIffAcyclicSaid : Prop := serializableIffAcyclicRow.holds Try.pinned (OpenSpec.ofChange serializableIffAcyclicSpec)

/-- ITS FALSE NEIGHBOUR: 'it returns false'. Refute it at one input. -/
def serializableIffAcyclicWrong : ChangeSpec := { name := "serializableIffAcyclic", fn := fun _ => fun
  | [d] => { results := [.lit (.bool false)], args := [d] }
  | _ => none }
def SerializableIffAcyclicWrongFalsely : Prop := serializableIffAcyclicRow.holds Try.pinned (OpenSpec.ofChange serializableIffAcyclicWrong)

/- THE SECOND FORM. 'bulk': how many values and letters a reading holds, each counted each time it is reached (what is shared counts as often as it is met; a slice's spare places count too). A statement '..UptoSaid' is the law's where the arguments, and the package variables that the reading takes, are together of bulk at most 1048576: NARROWER than '..Said'. Prove '..Said' where nothing that the law and all that it calls make is longer than what came in: it says more and counts as full. Else prove '..UptoSaid'. A law counts once. -/
mutual
def uptoBulk {H : Type} : DataW H → Nat
  | .lit (.string bytes) => bytes.length + 1
  | .lit _ => 1
  | .nil => 1
  | .ptr d => uptoBulk d + 1
  | .slice elems spare => uptoBulkAll elems + uptoBulkAll spare + 1
  | .agg parts => uptoBulkAll parts + 1
  | .iface _ d => uptoBulk d + 1
  | .map entries => uptoBulkEntries entries + 1
  | .held _ => 1
def uptoBulkAll {H : Type} : List (DataW H) → Nat
  | [] => 0
  | d :: r => uptoBulk d + uptoBulkAll r
def uptoBulkEntries {H : Type} : List (Lit × DataW H) → Nat
  | [] => 0
  | x :: r => uptoBulkEntry x + uptoBulkEntries r
def uptoBulkEntry {H : Type} : Lit × DataW H → Nat
  | (.string bytes, d) => bytes.length + uptoBulk d + 1
  | (_, d) => uptoBulk d + 1
 end
def uptoSmall : (H : Type) → List (DataW H) → Bool := fun _ ds => decide (uptoBulkAll ds ≤ 1048576)
def OpenSpec.upto (s : _root_.Go.ChangeSpec) : _root_.Go.OpenSpec := { _root_.Go.OpenSpec.ofChange s with cond := some uptoSmall }

/-- 'stemkeep5.SSIAdmitsSerialTransactions', WHERE WHAT IT READS IS OF BULK AT MOST 1048576: true; the input reads as it did. -/
def sSIAdmitsSerialTransactionsUptoRow : OpenClaim := { program := "ytfpegnlmpicekaa", sum := "46f2560b5afc510bc6e0400edf291fa05490f799d6148159901b1b1d87f711c7", func := "stemma/stemkeep5.SSIAdmitsSerialTransactions", spec := "sSIAdmitsSerialTransactions", unfollowed := true, recurses := true, apart := false, narrowed := true }
def SSIAdmitsSerialTransactionsUptoSaid : Prop := sSIAdmitsSerialTransactionsUptoRow.holds Try.pinned (OpenSpec.upto sSIAdmitsSerialTransactionsSpec)

/-- 'stemkeep5.SSIAdmitsDisjointTransactions', WHERE WHAT IT READS IS OF BULK AT MOST 1048576: true; the input reads as it did. -/
def sSIAdmitsDisjointTransactionsUptoRow : OpenClaim := { program := "ytfpegnlmpicekaa", sum := "46f2560b5afc510bc6e0400edf291fa05490f799d6148159901b1b1d87f711c7", func := "stemma/stemkeep5.SSIAdmitsDisjointTransactions", spec := "sSIAdmitsDisjointTransactions", unfollowed := true, recurses := true, apart := false, narrowed := true }
def SSIAdmitsDisjointTransactionsUptoSaid : Prop := sSIAdmitsDisjointTransactionsUptoRow.holds Try.pinned (OpenSpec.upto sSIAdmitsDisjointTransactionsSpec)

/-- 'stemkeep5.SSIDecisionsDependOnlyOnThePast', WHERE WHAT IT READS IS OF BULK AT MOST 1048576: true; the input reads as it did. -/
def sSIDecisionsDependOnlyOnThePastUptoRow : OpenClaim := { program := "ytfpegnlmpicekaa", sum := "46f2560b5afc510bc6e0400edf291fa05490f799d6148159901b1b1d87f711c7", func := "stemma/stemkeep5.SSIDecisionsDependOnlyOnThePast", spec := "sSIDecisionsDependOnlyOnThePast", unfollowed := true, recurses := true, apart := false, narrowed := true }
def SSIDecisionsDependOnlyOnThePastUptoSaid : Prop := sSIDecisionsDependOnlyOnThePastUptoRow.holds Try.pinned (OpenSpec.upto sSIDecisionsDependOnlyOnThePastSpec)

/-- 'stemkeep5.SwappingIndependentOperationsPreservesConflicts', WHERE WHAT IT READS IS OF BULK AT MOST 1048576: true; the input reads as it did. -/
def swappingIndependentOperationsPreservesConflictsUptoRow : OpenClaim := { program := "ytfpegnlmpicekaa", sum := "46f2560b5afc510bc6e0400edf291fa05490f799d6148159901b1b1d87f711c7", func := "stemma/stemkeep5.SwappingIndependentOperationsPreservesConflicts", spec := "swappingIndependentOperationsPreservesConflicts", unfollowed := true, recurses := true, apart := false, narrowed := true }
def SwappingIndependentOperationsPreservesConflictsUptoSaid : Prop := swappingIndependentOperationsPreservesConflictsUptoRow.holds Try.pinned (OpenSpec.upto swappingIndependentOperationsPreservesConflictsSpec)

/-- 'stemkeep5.SerialHistoriesAreSerializable', WHERE WHAT IT READS IS OF BULK AT MOST 1048576: true; the input reads as it did. -/
def serialHistoriesAreSerializableUptoRow : OpenClaim := { program := "ytfpegnlmpicekaa", sum := "46f2560b5afc510bc6e0400edf291fa05490f799d6148159901b1b1d87f711c7", func := "stemma/stemkeep5.SerialHistoriesAreSerializable", spec := "serialHistoriesAreSerializable", unfollowed := true, recurses := true, apart := false, narrowed := true }
def SerialHistoriesAreSerializableUptoSaid : Prop := serialHistoriesAreSerializableUptoRow.holds Try.pinned (OpenSpec.upto serialHistoriesAreSerializableSpec)

/-- 'stemkeep5.SSIAdmittedTransactionsAreSerializable', WHERE WHAT IT READS IS OF BULK AT MOST 1048576: true; the input reads as it did. -/
def sSIAdmittedTransactionsAreSerializableUptoRow : OpenClaim := { program := "ytfpegnlmpicekaa", sum := "46f2560b5afc510bc6e0400edf291fa05490f799d6148159901b1b1d87f711c7", func := "stemma/stemkeep5.SSIAdmittedTransactionsAreSerializable", spec := "sSIAdmittedTransactionsAreSerializable", unfollowed := true, recurses := true, apart := false, narrowed := true }
def SSIAdmittedTransactionsAreSerializableUptoSaid : Prop := sSIAdmittedTransactionsAreSerializableUptoRow.holds Try.pinned (OpenSpec.upto sSIAdmittedTransactionsAreSerializableSpec)

/-- 'stemkeep5.SerialOrderIsEquivalent', WHERE WHAT IT READS IS OF BULK AT MOST 1048576: true; the input reads as it did. -/
def serialOrderIsEquivalentUptoRow : OpenClaim := { program := "ytfpegnlmpicekaa", sum := "46f2560b5afc510bc6e0400edf291fa05490f799d6148159901b1b1d87f711c7", func := "stemma/stemkeep5.SerialOrderIsEquivalent", spec := "serialOrderIsEquivalent", unfollowed := true, recurses := true, apart := false, narrowed := true }
def SerialOrderIsEquivalentUptoSaid : Prop := serialOrderIsEquivalentUptoRow.holds Try.pinned (OpenSpec.upto serialOrderIsEquivalentSpec)

/-- 'stemkeep5.SerializableIffAcyclic', WHERE WHAT IT READS IS OF BULK AT MOST 1048576: true; the input reads as it did. -/
def serializableIffAcyclicUptoRow : OpenClaim := { program := "ytfpegnlmpicekaa", sum := "46f2560b5afc510bc6e0400edf291fa05490f799d6148159901b1b1d87f711c7", func := "stemma/stemkeep5.SerializableIffAcyclic", spec := "serializableIffAcyclic", unfollowed := true, recurses := true, apart := false, narrowed := true }
def SerializableIffAcyclicUptoSaid : Prop := serializableIffAcyclicUptoRow.holds Try.pinned (OpenSpec.upto serializableIffAcyclicSpec)

end Rows
end Go.Proofs.Ytfpegnlmpicekaa
