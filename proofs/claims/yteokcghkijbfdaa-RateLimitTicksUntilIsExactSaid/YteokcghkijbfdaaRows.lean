/-
  No cell of these rows narrows 'for every input' (looked for: loops, veiled, ifaces, maps, wideKeys, modest, calm, conditions, laid).
  DERIVED. THE GIVEN ROWS OF THIS SEAT. 6 by the template 'for every input the law returns true; each argument reads behind the call as it read before'; 0 by the template 'total and deterministic' (their statements: YteokcghkijbfdaaTotals.lean).
  GIVEN WITH THE SEED: the statements are not yours to turn. If you find one false, say at which input.
  Laid BY PROGRAM, IN A SANDBOX (cutbox-rows.mjs): the forced cells as the released guide's own fill.sh prints them over the translation 94e9505a0505aa63… (all of the seat's roots in one cut). By AI agents, Wed Nov 11 2026. No macro, syntax, notation, axiom, sorry.
-/
import Derived.Test.YteokcghkijbfdaaChecked
import GoSem.Claim
import GoSem.ClaimJoined
import GoSem.ClaimMapViews
import Derived.JoinedTies
import Derived.KernelRfl
namespace Go.Proofs.Yteokcghkijbfdaa
/- THE CELL 'sum', in the pinned program and in every row, IS THE sha256 OF THE DUMP (.gsa) THAT YteokcghkijbfdaaProg.lean LOADS. Nothing in Lean hashes anything: it is a label: what it is worth is what the hold of that sum in a sandbox is worth. -/
noncomputable def Try.pinned : Pinned := { name := "yteokcghkijbfdaa", sum := "94e9505a0505aa6341d59142f7d76d55254752a49c9fd1739719f0368ea0adac", checked := Try.checked }
namespace Rows
def none {H : Type} : Left H := { results := [], args := [] }

/-- 'stemkeep5.RateLimitBoundsThroughput': WHATEVER THE INPUT: true; the input reads as it did. -/
def rateLimitBoundsThroughputSpec : ChangeSpec := { name := "rateLimitBoundsThroughput", fn := fun _ => fun
  | [d1, d2, d3] => { results := [.lit (.bool true)], args := [d1, d2, d3] }
  | _ => none }
def rateLimitBoundsThroughputRow : OpenClaim := { program := "yteokcghkijbfdaa", sum := "94e9505a0505aa6341d59142f7d76d55254752a49c9fd1739719f0368ea0adac", func := "stemma/stemkeep5.RateLimitBoundsThroughput", spec := "rateLimitBoundsThroughput", apart := false }
def RateLimitBoundsThroughputSaid : Prop := rateLimitBoundsThroughputRow.holds Try.pinned (OpenSpec.ofChange rateLimitBoundsThroughputSpec)

/-- ITS FALSE NEIGHBOUR: 'it returns false'. Refute it at one input. -/
def rateLimitBoundsThroughputWrong : ChangeSpec := { name := "rateLimitBoundsThroughput", fn := fun _ => fun
  | [d1, d2, d3] => { results := [.lit (.bool false)], args := [d1, d2, d3] }
  | _ => none }
def RateLimitBoundsThroughputWrongFalsely : Prop := rateLimitBoundsThroughputRow.holds Try.pinned (OpenSpec.ofChange rateLimitBoundsThroughputWrong)

/-- 'stemkeep5.RateLimitNeverHoldsTokensAndDebt': WHATEVER THE INPUT: true; the input reads as it did. -/
def rateLimitNeverHoldsTokensAndDebtSpec : ChangeSpec := { name := "rateLimitNeverHoldsTokensAndDebt", fn := fun _ => fun
  | [d1, d2, d3] => { results := [.lit (.bool true)], args := [d1, d2, d3] }
  | _ => none }
def rateLimitNeverHoldsTokensAndDebtRow : OpenClaim := { program := "yteokcghkijbfdaa", sum := "94e9505a0505aa6341d59142f7d76d55254752a49c9fd1739719f0368ea0adac", func := "stemma/stemkeep5.RateLimitNeverHoldsTokensAndDebt", spec := "rateLimitNeverHoldsTokensAndDebt", apart := false }
def RateLimitNeverHoldsTokensAndDebtSaid : Prop := rateLimitNeverHoldsTokensAndDebtRow.holds Try.pinned (OpenSpec.ofChange rateLimitNeverHoldsTokensAndDebtSpec)

/-- ITS FALSE NEIGHBOUR: 'it returns false'. Refute it at one input. -/
def rateLimitNeverHoldsTokensAndDebtWrong : ChangeSpec := { name := "rateLimitNeverHoldsTokensAndDebt", fn := fun _ => fun
  | [d1, d2, d3] => { results := [.lit (.bool false)], args := [d1, d2, d3] }
  | _ => none }
def RateLimitNeverHoldsTokensAndDebtWrongFalsely : Prop := rateLimitNeverHoldsTokensAndDebtRow.holds Try.pinned (OpenSpec.ofChange rateLimitNeverHoldsTokensAndDebtWrong)

/-- 'stemkeep5.RateLimitTicksUntilIsExact': WHATEVER THE INPUT: true; the input reads as it did. -/
def rateLimitTicksUntilIsExactSpec : ChangeSpec := { name := "rateLimitTicksUntilIsExact", fn := fun _ => fun
  | [d1, d2, d3, d4] => { results := [.lit (.bool true)], args := [d1, d2, d3, d4] }
  | _ => none }
def rateLimitTicksUntilIsExactRow : OpenClaim := { program := "yteokcghkijbfdaa", sum := "94e9505a0505aa6341d59142f7d76d55254752a49c9fd1739719f0368ea0adac", func := "stemma/stemkeep5.RateLimitTicksUntilIsExact", spec := "rateLimitTicksUntilIsExact", apart := false }
def RateLimitTicksUntilIsExactSaid : Prop := rateLimitTicksUntilIsExactRow.holds Try.pinned (OpenSpec.ofChange rateLimitTicksUntilIsExactSpec)

/-- ITS FALSE NEIGHBOUR: 'it returns false'. Refute it at one input. -/
def rateLimitTicksUntilIsExactWrong : ChangeSpec := { name := "rateLimitTicksUntilIsExact", fn := fun _ => fun
  | [d1, d2, d3, d4] => { results := [.lit (.bool false)], args := [d1, d2, d3, d4] }
  | _ => none }
def RateLimitTicksUntilIsExactWrongFalsely : Prop := rateLimitTicksUntilIsExactRow.holds Try.pinned (OpenSpec.ofChange rateLimitTicksUntilIsExactWrong)

/-- 'stemkeep5.DiskReadReturnsLatestWrite': WHATEVER THE INPUT: true; the input reads as it did. -/
def diskReadReturnsLatestWriteSpec : ChangeSpec := { name := "diskReadReturnsLatestWrite", fn := fun _ => fun
  | [d] => { results := [.lit (.bool true)], args := [d] }
  | _ => none }
def diskReadReturnsLatestWriteRow : OpenClaim := { program := "yteokcghkijbfdaa", sum := "94e9505a0505aa6341d59142f7d76d55254752a49c9fd1739719f0368ea0adac", func := "stemma/stemkeep5.DiskReadReturnsLatestWrite", spec := "diskReadReturnsLatestWrite", unfollowed := true, recurses := true, apart := false }
def DiskReadReturnsLatestWriteSaid : Prop := diskReadReturnsLatestWriteRow.holds Try.pinned (OpenSpec.ofChange diskReadReturnsLatestWriteSpec)

/-- ITS FALSE NEIGHBOUR: 'it returns false'. Refute it at one input. -/
def diskReadReturnsLatestWriteWrong : ChangeSpec := { name := "diskReadReturnsLatestWrite", fn := fun _ => fun
  | [d] => { results := [.lit (.bool false)], args := [d] }
  | _ => none }
def DiskReadReturnsLatestWriteWrongFalsely : Prop := diskReadReturnsLatestWriteRow.holds Try.pinned (OpenSpec.ofChange diskReadReturnsLatestWriteWrong)

/-- 'stemkeep5.DiskFlushedDataSurvives': WHATEVER THE INPUT: true; the input reads as it did. -/
def diskFlushedDataSurvivesSpec : ChangeSpec := { name := "diskFlushedDataSurvives", fn := fun _ => fun
  | [d1, d2] => { results := [.lit (.bool true)], args := [d1, d2] }
  | _ => none }
def diskFlushedDataSurvivesRow : OpenClaim := { program := "yteokcghkijbfdaa", sum := "94e9505a0505aa6341d59142f7d76d55254752a49c9fd1739719f0368ea0adac", func := "stemma/stemkeep5.DiskFlushedDataSurvives", spec := "diskFlushedDataSurvives", unfollowed := true, recurses := true, apart := false }
def DiskFlushedDataSurvivesSaid : Prop := diskFlushedDataSurvivesRow.holds Try.pinned (OpenSpec.ofChange diskFlushedDataSurvivesSpec)

/-- ITS FALSE NEIGHBOUR: 'it returns false'. Refute it at one input. -/
def diskFlushedDataSurvivesWrong : ChangeSpec := { name := "diskFlushedDataSurvives", fn := fun _ => fun
  | [d1, d2] => { results := [.lit (.bool false)], args := [d1, d2] }
  | _ => none }
def DiskFlushedDataSurvivesWrongFalsely : Prop := diskFlushedDataSurvivesRow.holds Try.pinned (OpenSpec.ofChange diskFlushedDataSurvivesWrong)

/-- 'stemkeep5.DiskCrashKeepsSelectedWrites': WHATEVER THE INPUT: true; the input reads as it did. -/
def diskCrashKeepsSelectedWritesSpec : ChangeSpec := { name := "diskCrashKeepsSelectedWrites", fn := fun _ => fun
  | [d] => { results := [.lit (.bool true)], args := [d] }
  | _ => none }
def diskCrashKeepsSelectedWritesRow : OpenClaim := { program := "yteokcghkijbfdaa", sum := "94e9505a0505aa6341d59142f7d76d55254752a49c9fd1739719f0368ea0adac", func := "stemma/stemkeep5.DiskCrashKeepsSelectedWrites", spec := "diskCrashKeepsSelectedWrites", unfollowed := true, recurses := true, apart := false }
def DiskCrashKeepsSelectedWritesSaid : Prop := diskCrashKeepsSelectedWritesRow.holds Try.pinned (OpenSpec.ofChange diskCrashKeepsSelectedWritesSpec)

/-- ITS FALSE NEIGHBOUR: 'it returns false'. Refute it at one input. -/
def diskCrashKeepsSelectedWritesWrong : ChangeSpec := { name := "diskCrashKeepsSelectedWrites", fn := fun _ => fun
  | [d] => { results := [.lit (.bool false)], args := [d] }
  | _ => none }
def DiskCrashKeepsSelectedWritesWrongFalsely : Prop := diskCrashKeepsSelectedWritesRow.holds Try.pinned (OpenSpec.ofChange diskCrashKeepsSelectedWritesWrong)

/- THE SECOND FORM. 'bulk': how many values and letters a reading holds, each counted each time it is reached (what is shared counts as often as it is met; a slice's spare places count too). A statement '..UptoSaid' is the law's where the arguments, and the package variables that the reading takes, are together of bulk at most 1048576: NARROWER than '..Said'. Prove '..Said' where nothing that the law and all that it calls make is longer than what came in: it says more and counts as full. Else prove '..UptoSaid'. A law counts once. -/
mutual
def uptoBulk {H : Type} : DataW H → Nat
  | .lit (.string bytes) => bytes.length + 1
  | .lit _ => 1
  | .nil => 1
  | .ptr d => uptoBulk d + 1
  | .slice elems spare => uptoBulkAll elems + uptoBulkAll spare + 1
  | .agg parts => uptoBulkAll parts + 1
  | .iface _ d => uptoBulk d + 1
  | .map entries => uptoBulkEntries entries + 1
  | .held _ => 1
def uptoBulkAll {H : Type} : List (DataW H) → Nat
  | [] => 0
  | d :: r => uptoBulk d + uptoBulkAll r
def uptoBulkEntries {H : Type} : List (Lit × DataW H) → Nat
  | [] => 0
  | x :: r => uptoBulkEntry x + uptoBulkEntries r
def uptoBulkEntry {H : Type} : Lit × DataW H → Nat
  | (.string bytes, d) => bytes.length + uptoBulk d + 1
  | (_, d) => uptoBulk d + 1
 end
def uptoSmall : (H : Type) → List (DataW H) → Bool := fun _ ds => decide (uptoBulkAll ds ≤ 1048576)
def OpenSpec.upto (s : _root_.Go.ChangeSpec) : _root_.Go.OpenSpec := { _root_.Go.OpenSpec.ofChange s with cond := some uptoSmall }

/-- 'stemkeep5.RateLimitBoundsThroughput', WHERE WHAT IT READS IS OF BULK AT MOST 1048576: true; the input reads as it did. -/
def rateLimitBoundsThroughputUptoRow : OpenClaim := { program := "yteokcghkijbfdaa", sum := "94e9505a0505aa6341d59142f7d76d55254752a49c9fd1739719f0368ea0adac", func := "stemma/stemkeep5.RateLimitBoundsThroughput", spec := "rateLimitBoundsThroughput", apart := false, narrowed := true }
def RateLimitBoundsThroughputUptoSaid : Prop := rateLimitBoundsThroughputUptoRow.holds Try.pinned (OpenSpec.upto rateLimitBoundsThroughputSpec)

/-- 'stemkeep5.RateLimitNeverHoldsTokensAndDebt', WHERE WHAT IT READS IS OF BULK AT MOST 1048576: true; the input reads as it did. -/
def rateLimitNeverHoldsTokensAndDebtUptoRow : OpenClaim := { program := "yteokcghkijbfdaa", sum := "94e9505a0505aa6341d59142f7d76d55254752a49c9fd1739719f0368ea0adac", func := "stemma/stemkeep5.RateLimitNeverHoldsTokensAndDebt", spec := "rateLimitNeverHoldsTokensAndDebt", apart := false, narrowed := true }
def RateLimitNeverHoldsTokensAndDebtUptoSaid : Prop := rateLimitNeverHoldsTokensAndDebtUptoRow.holds Try.pinned (OpenSpec.upto rateLimitNeverHoldsTokensAndDebtSpec)

/-- 'stemkeep5.RateLimitTicksUntilIsExact', WHERE WHAT IT READS IS OF BULK AT MOST 1048576: true; the input reads as it did. -/
def rateLimitTicksUntilIsExactUptoRow : OpenClaim := { program := "yteokcghkijbfdaa", sum := "94e9505a0505aa6341d59142f7d76d55254752a49c9fd1739719f0368ea0adac", func := "stemma/stemkeep5.RateLimitTicksUntilIsExact", spec := "rateLimitTicksUntilIsExact", apart := false, narrowed := true }
def RateLimitTicksUntilIsExactUptoSaid : Prop := rateLimitTicksUntilIsExactUptoRow.holds Try.pinned (OpenSpec.upto rateLimitTicksUntilIsExactSpec)

/-- 'stemkeep5.DiskReadReturnsLatestWrite', WHERE WHAT IT READS IS OF BULK AT MOST 1048576: true; the input reads as it did. -/
def diskReadReturnsLatestWriteUptoRow : OpenClaim := { program := "yteokcghkijbfdaa", sum := "94e9505a0505aa6341d59142f7d76d55254752a49c9fd1739719f0368ea0adac", func := "stemma/stemkeep5.DiskReadReturnsLatestWrite", spec := "diskReadReturnsLatestWrite", unfollowed := true, recurses := true, apart := false, narrowed := true }
def DiskReadReturnsLatestWriteUptoSaid : Prop := diskReadReturnsLatestWriteUptoRow.holds Try.pinned (OpenSpec.upto diskReadReturnsLatestWriteSpec)

/-- 'stemkeep5.DiskFlushedDataSurvives', WHERE WHAT IT READS IS OF BULK AT MOST 1048576: true; the input reads as it did. -/
def diskFlushedDataSurvivesUptoRow : OpenClaim := { program := "yteokcghkijbfdaa", sum := "94e9505a0505aa6341d59142f7d76d55254752a49c9fd1739719f0368ea0adac", func := "stemma/stemkeep5.DiskFlushedDataSurvives", spec := "diskFlushedDataSurvives", unfollowed := true, recurses := true, apart := false, narrowed := true }
def DiskFlushedDataSurvivesUptoSaid : Prop := diskFlushedDataSurvivesUptoRow.holds Try.pinned (OpenSpec.upto diskFlushedDataSurvivesSpec)

/-- 'stemkeep5.DiskCrashKeepsSelectedWrites', WHERE WHAT IT READS IS OF BULK AT MOST 1048576: true; the input reads as it did. -/
def diskCrashKeepsSelectedWritesUptoRow : OpenClaim := { program := "yteokcghkijbfdaa", sum := "94e9505a0505aa6341d59142f7d76d55254752a49c9fd1739719f0368ea0adac", func := "stemma/stemkeep5.DiskCrashKeepsSelectedWrites", spec := "diskCrashKeepsSelectedWrites", unfollowed := true, recurses := true, apart := false, narrowed := true }
def DiskCrashKeepsSelectedWritesUptoSaid : Prop := diskCrashKeepsSelectedWritesUptoRow.holds Try.pinned (OpenSpec.upto diskCrashKeepsSelectedWritesSpec)

end Rows
end Go.Proofs.Yteokcghkijbfdaa
