/-
  No cell of these rows narrows 'for every input' (looked for: loops, veiled, ifaces, maps, wideKeys, modest, calm, conditions, laid).
  DERIVED. THE GIVEN ROWS OF THIS SEAT. 4 by the template 'for every input the law returns true; each argument reads behind the call as it read before'; 0 by the template 'total and deterministic' (their statements: YthcldanmppkkjaaTotals.lean).
  GIVEN WITH THE SEED: the statements are not yours to turn. If you find one false, say at which input.
  Laid BY PROGRAM, IN A SANDBOX (cutbox-rows.mjs): the forced cells as the released guide's own fill.sh prints them over the translation f77eb6f10c142e50… (all of the seat's roots in one cut). By AI agents, Wed Nov 11 2026. No macro, syntax, notation, axiom, sorry.
-/
import Derived.Test.YthcldanmppkkjaaChecked
import GoSem.Claim
import GoSem.ClaimJoined
import GoSem.ClaimMapViews
import Derived.JoinedTies
import Derived.KernelRfl
namespace Go.Proofs.Ythcldanmppkkjaa
/- THE CELL 'sum', in the pinned program and in every row, IS THE sha256 OF THE DUMP (.gsa) THAT YthcldanmppkkjaaProg.lean LOADS. Nothing in Lean hashes anything: it is a label: what it is worth is what the hold of that sum in a sandbox is worth. -/
noncomputable def Try.pinned : Pinned := { name := "ythcldanmppkkjaa", sum := "f77eb6f10c142e506463146ba3a1c83d4efa1bd270741490e3b8994a6317edca", checked := Try.checked }
namespace Rows
def none {H : Type} : Left H := { results := [], args := [] }

/-- 'stemkeep5.InterleavingClassesGrowWithOperations': WHATEVER THE INPUT: true; the input reads as it did. -/
def interleavingClassesGrowWithOperationsSpec : ChangeSpec := { name := "interleavingClassesGrowWithOperations", fn := fun _ => fun
  | [d1, d2] => { results := [.lit (.bool true)], args := [d1, d2] }
  | _ => none }
def interleavingClassesGrowWithOperationsRow : OpenClaim := { program := "ythcldanmppkkjaa", sum := "f77eb6f10c142e506463146ba3a1c83d4efa1bd270741490e3b8994a6317edca", func := "stemma/stemkeep5.InterleavingClassesGrowWithOperations", spec := "interleavingClassesGrowWithOperations", unfollowed := true, recurses := true, apart := false }
def InterleavingClassesGrowWithOperationsSaid : Prop := interleavingClassesGrowWithOperationsRow.holds Try.pinned (OpenSpec.ofChange interleavingClassesGrowWithOperationsSpec)

/-- ITS FALSE NEIGHBOUR: 'it returns false'. Refute it at one input. -/
def interleavingClassesGrowWithOperationsWrong : ChangeSpec := { name := "interleavingClassesGrowWithOperations", fn := fun _ => fun
  | [d1, d2] => { results := [.lit (.bool false)], args := [d1, d2] }
  | _ => none }
def InterleavingClassesGrowWithOperationsWrongFalsely : Prop := interleavingClassesGrowWithOperationsRow.holds Try.pinned (OpenSpec.ofChange interleavingClassesGrowWithOperationsWrong)

/-- 'stemkeep5.InterleavingIndependentTransactionsHaveOneClass': WHATEVER THE INPUT: true; the input reads as it did. -/
def interleavingIndependentTransactionsHaveOneClassSpec : ChangeSpec := { name := "interleavingIndependentTransactionsHaveOneClass", fn := fun _ => fun
  | [d] => { results := [.lit (.bool true)], args := [d] }
  | _ => none }
def interleavingIndependentTransactionsHaveOneClassRow : OpenClaim := { program := "ythcldanmppkkjaa", sum := "f77eb6f10c142e506463146ba3a1c83d4efa1bd270741490e3b8994a6317edca", func := "stemma/stemkeep5.InterleavingIndependentTransactionsHaveOneClass", spec := "interleavingIndependentTransactionsHaveOneClass", unfollowed := true, recurses := true, apart := false }
def InterleavingIndependentTransactionsHaveOneClassSaid : Prop := interleavingIndependentTransactionsHaveOneClassRow.holds Try.pinned (OpenSpec.ofChange interleavingIndependentTransactionsHaveOneClassSpec)

/-- ITS FALSE NEIGHBOUR: 'it returns false'. Refute it at one input. -/
def interleavingIndependentTransactionsHaveOneClassWrong : ChangeSpec := { name := "interleavingIndependentTransactionsHaveOneClass", fn := fun _ => fun
  | [d] => { results := [.lit (.bool false)], args := [d] }
  | _ => none }
def InterleavingIndependentTransactionsHaveOneClassWrongFalsely : Prop := interleavingIndependentTransactionsHaveOneClassRow.holds Try.pinned (OpenSpec.ofChange interleavingIndependentTransactionsHaveOneClassWrong)

/-- 'stemkeep5.InterleavingCoversEverySchedule': WHATEVER THE INPUT: true; the input reads as it did. -/
def interleavingCoversEveryScheduleSpec : ChangeSpec := { name := "interleavingCoversEverySchedule", fn := fun _ => fun
  | [d1, d2] => { results := [.lit (.bool true)], args := [d1, d2] }
  | _ => none }
def interleavingCoversEveryScheduleRow : OpenClaim := { program := "ythcldanmppkkjaa", sum := "f77eb6f10c142e506463146ba3a1c83d4efa1bd270741490e3b8994a6317edca", func := "stemma/stemkeep5.InterleavingCoversEverySchedule", spec := "interleavingCoversEverySchedule", unfollowed := true, recurses := true, apart := false }
def InterleavingCoversEveryScheduleSaid : Prop := interleavingCoversEveryScheduleRow.holds Try.pinned (OpenSpec.ofChange interleavingCoversEveryScheduleSpec)

/-- ITS FALSE NEIGHBOUR: 'it returns false'. Refute it at one input. -/
def interleavingCoversEveryScheduleWrong : ChangeSpec := { name := "interleavingCoversEverySchedule", fn := fun _ => fun
  | [d1, d2] => { results := [.lit (.bool false)], args := [d1, d2] }
  | _ => none }
def InterleavingCoversEveryScheduleWrongFalsely : Prop := interleavingCoversEveryScheduleRow.holds Try.pinned (OpenSpec.ofChange interleavingCoversEveryScheduleWrong)

/-- 'stemkeep5.InterleavingEquivalencePreservesSerializability': WHATEVER THE INPUT: true; the input reads as it did. -/
def interleavingEquivalencePreservesSerializabilitySpec : ChangeSpec := { name := "interleavingEquivalencePreservesSerializability", fn := fun _ => fun
  | [d1, d2] => { results := [.lit (.bool true)], args := [d1, d2] }
  | _ => none }
def interleavingEquivalencePreservesSerializabilityRow : OpenClaim := { program := "ythcldanmppkkjaa", sum := "f77eb6f10c142e506463146ba3a1c83d4efa1bd270741490e3b8994a6317edca", func := "stemma/stemkeep5.InterleavingEquivalencePreservesSerializability", spec := "interleavingEquivalencePreservesSerializability", unfollowed := true, recurses := true, apart := false }
def InterleavingEquivalencePreservesSerializabilitySaid : Prop := interleavingEquivalencePreservesSerializabilityRow.holds Try.pinned (OpenSpec.ofChange interleavingEquivalencePreservesSerializabilitySpec)

/-- ITS FALSE NEIGHBOUR: 'it returns false'. Refute it at one input. -/
def interleavingEquivalencePreservesSerializabilityWrong : ChangeSpec := { name := "interleavingEquivalencePreservesSerializability", fn := fun _ => fun
  | [d1, d2] => { results := [.lit (.bool false)], args := [d1, d2] }
  | _ => none }
def InterleavingEquivalencePreservesSerializabilityWrongFalsely : Prop := interleavingEquivalencePreservesSerializabilityRow.holds Try.pinned (OpenSpec.ofChange interleavingEquivalencePreservesSerializabilityWrong)

/- THE SECOND FORM. 'bulk': how many values and letters a reading holds, each counted each time it is reached (what is shared counts as often as it is met; a slice's spare places count too). A statement '..UptoSaid' is the law's where the arguments, and the package variables that the reading takes, are together of bulk at most 1048576: NARROWER than '..Said'. Prove '..Said' where nothing that the law and all that it calls make is longer than what came in: it says more and counts as full. Else prove '..UptoSaid'. A law counts once. -/
mutual
def uptoBulk {H : Type} : DataW H → Nat
  | .lit (.string bytes) => bytes.length + 1
  | .lit _ => 1
  | .nil => 1
  | .ptr d => uptoBulk d + 1
  | .slice elems spare => uptoBulkAll elems + uptoBulkAll spare + 1
  | .agg parts => uptoBulkAll parts + 1
  | .iface _ d => uptoBulk d + 1
  | .map entries => uptoBulkEntries entries + 1
  | .held _ => 1
def uptoBulkAll {H : Type} : List (DataW H) → Nat
  | [] => 0
  | d :: r => uptoBulk d + uptoBulkAll r
def uptoBulkEntries {H : Type} : List (Lit × DataW H) → Nat
  | [] => 0
  | x :: r => uptoBulkEntry x + uptoBulkEntries r
def uptoBulkEntry {H : Type} : Lit × DataW H → Nat
  | (.string bytes, d) => bytes.length + uptoBulk d + 1
  | (_, d) => uptoBulk d + 1
 end
def uptoSmall : (H : Type) → List (DataW H) → Bool := fun _ ds => decide (uptoBulkAll ds ≤ 1048576)
def OpenSpec.upto (s : _root_.Go.ChangeSpec) : _root_.Go.OpenSpec := { _root_.Go.OpenSpec.ofChange s with cond := some uptoSmall }

/-- 'stemkeep5.InterleavingClassesGrowWithOperations', WHERE WHAT IT READS IS OF BULK AT MOST 1048576: true; the input reads as it did. -/
def interleavingClassesGrowWithOperationsUptoRow : OpenClaim := { program := "ythcldanmppkkjaa", sum := "f77eb6f10c142e506463146ba3a1c83d4efa1bd270741490e3b8994a6317edca", func := "stemma/stemkeep5.InterleavingClassesGrowWithOperations", spec := "interleavingClassesGrowWithOperations", unfollowed := true, recurses := true, apart := false, narrowed := true }
def InterleavingClassesGrowWithOperationsUptoSaid : Prop := interleavingClassesGrowWithOperationsUptoRow.holds Try.pinned (OpenSpec.upto interleavingClassesGrowWithOperationsSpec)

/-- 'stemkeep5.InterleavingIndependentTransactionsHaveOneClass', WHERE WHAT IT READS IS OF BULK AT MOST 1048576: true; the input reads as it did. -/
def interleavingIndependentTransactionsHaveOneClassUptoRow : OpenClaim := { program := "ythcldanmppkkjaa", sum := "f77eb6f10c142e506463146ba3a1c83d4efa1bd270741490e3b8994a6317edca", func := "stemma/stemkeep5.InterleavingIndependentTransactionsHaveOneClass", spec := "interleavingIndependentTransactionsHaveOneClass", unfollowed := true, recurses := true, apart := false, narrowed := true }
def InterleavingIndependentTransactionsHaveOneClassUptoSaid : Prop := interleavingIndependentTransactionsHaveOneClassUptoRow.holds Try.pinned (OpenSpec.upto interleavingIndependentTransactionsHaveOneClassSpec)

/-- 'stemkeep5.InterleavingCoversEverySchedule', WHERE WHAT IT READS IS OF BULK AT MOST 1048576: true; the input reads as it did. -/
def interleavingCoversEveryScheduleUptoRow : OpenClaim := { program := "ythcldanmppkkjaa", sum := "f77eb6f10c142e506463146ba3a1c83d4efa1bd270741490e3b8994a6317edca", func := "stemma/stemkeep5.InterleavingCoversEverySchedule", spec := "interleavingCoversEverySchedule", unfollowed := true, recurses := true, apart := false, narrowed := true }
def InterleavingCoversEveryScheduleUptoSaid : Prop := interleavingCoversEveryScheduleUptoRow.holds Try.pinned (OpenSpec.upto interleavingCoversEveryScheduleSpec)

/-- 'stemkeep5.InterleavingEquivalencePreservesSerializability', WHERE WHAT IT READS IS OF BULK AT MOST 1048576: true; the input reads as it did. -/
def interleavingEquivalencePreservesSerializabilityUptoRow : OpenClaim := { program := "ythcldanmppkkjaa", sum := "f77eb6f10c142e506463146ba3a1c83d4efa1bd270741490e3b8994a6317edca", func := "stemma/stemkeep5.InterleavingEquivalencePreservesSerializability", spec := "interleavingEquivalencePreservesSerializability", unfollowed := true, recurses := true, apart := false, narrowed := true }
def InterleavingEquivalencePreservesSerializabilityUptoSaid : Prop := interleavingEquivalencePreservesSerializabilityUptoRow.holds Try.pinned (OpenSpec.upto interleavingEquivalencePreservesSerializabilitySpec)

end Rows
end Go.Proofs.Ythcldanmppkkjaa
