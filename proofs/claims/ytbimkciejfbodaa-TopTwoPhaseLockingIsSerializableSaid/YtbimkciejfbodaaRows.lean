/-
  No cell of these rows narrows 'for every input' (looked for: loops, veiled, ifaces, maps, wideKeys, modest, calm, conditions, laid).
  DERIVED. THE GIVEN ROWS OF THIS SEAT. 7 by the template 'for every input the law returns true; each argument reads behind the call as it read before'; 0 by the template 'total and deterministic' (their statements: YtbimkciejfbodaaTotals.lean).
  GIVEN WITH THE SEED: the statements are not yours to turn. If you find one false, say at which input.
  Laid BY PROGRAM, IN A SANDBOX (cutbox-rows.mjs): the forced cells as the released guide's own fill.sh prints them over the translation c77d8e05c60baef6… (all of the seat's roots in one cut). By AI agents, Wed Nov 11 2026. No macro, syntax, notation, axiom, sorry.
-/
import Derived.Test.YtbimkciejfbodaaChecked
import GoSem.Claim
import GoSem.ClaimJoined
import GoSem.ClaimMapViews
import Derived.JoinedTies
import Derived.KernelRfl
namespace Go.Proofs.Ytbimkciejfbodaa
/- THE CELL 'sum', in the pinned program and in every row, IS THE sha256 OF THE DUMP (.gsa) THAT YtbimkciejfbodaaProg.lean LOADS. Nothing in Lean hashes anything: it is a label: what it is worth is what the hold of that sum in a sandbox is worth. -/
noncomputable def Try.pinned : Pinned := { name := "ytbimkciejfbodaa", sum := "c77d8e05c60baef6c5e3e106c812b1ac384fa00d5db56143d3e4ef46cd3f83f3", checked := Try.checked }
namespace Rows
def none {H : Type} : Left H := { results := [], args := [] }

/-- 'stemtop.TopTwoPhaseLockingIsSerializable': WHATEVER THE INPUT: true; the input reads as it did. -/
def topTwoPhaseLockingIsSerializableSpec : ChangeSpec := { name := "topTwoPhaseLockingIsSerializable", fn := fun _ => fun
  | [d1, d2] => { results := [.lit (.bool true)], args := [d1, d2] }
  | _ => none }
def topTwoPhaseLockingIsSerializableRow : OpenClaim := { program := "ytbimkciejfbodaa", sum := "c77d8e05c60baef6c5e3e106c812b1ac384fa00d5db56143d3e4ef46cd3f83f3", func := "stemma/stemtop.TopTwoPhaseLockingIsSerializable", spec := "topTwoPhaseLockingIsSerializable", unfollowed := true, recurses := true, apart := false }
def TopTwoPhaseLockingIsSerializableSaid : Prop := topTwoPhaseLockingIsSerializableRow.holds Try.pinned (OpenSpec.ofChange topTwoPhaseLockingIsSerializableSpec)

/-- ITS FALSE NEIGHBOUR: 'it returns false'. Refute it at one input. -/
def topTwoPhaseLockingIsSerializableWrong : ChangeSpec := { name := "topTwoPhaseLockingIsSerializable", fn := fun _ => fun
  | [d1, d2] => { results := [.lit (.bool false)], args := [d1, d2] }
  | _ => none }
def TopTwoPhaseLockingIsSerializableWrongFalsely : Prop := topTwoPhaseLockingIsSerializableRow.holds Try.pinned (OpenSpec.ofChange topTwoPhaseLockingIsSerializableWrong)

/-- 'stemkeep5.LocksSharedLocksCoexist': WHATEVER THE INPUT: true; the input reads as it did. -/
def locksSharedLocksCoexistSpec : ChangeSpec := { name := "locksSharedLocksCoexist", fn := fun _ => fun
  | [d] => { results := [.lit (.bool true)], args := [d] }
  | _ => none }
def locksSharedLocksCoexistRow : OpenClaim := { program := "ytbimkciejfbodaa", sum := "c77d8e05c60baef6c5e3e106c812b1ac384fa00d5db56143d3e4ef46cd3f83f3", func := "stemma/stemkeep5.LocksSharedLocksCoexist", spec := "locksSharedLocksCoexist", unfollowed := true, recurses := true, apart := false }
def LocksSharedLocksCoexistSaid : Prop := locksSharedLocksCoexistRow.holds Try.pinned (OpenSpec.ofChange locksSharedLocksCoexistSpec)

/-- ITS FALSE NEIGHBOUR: 'it returns false'. Refute it at one input. -/
def locksSharedLocksCoexistWrong : ChangeSpec := { name := "locksSharedLocksCoexist", fn := fun _ => fun
  | [d] => { results := [.lit (.bool false)], args := [d] }
  | _ => none }
def LocksSharedLocksCoexistWrongFalsely : Prop := locksSharedLocksCoexistRow.holds Try.pinned (OpenSpec.ofChange locksSharedLocksCoexistWrong)

/-- 'stemkeep5.LocksNeverDeadlock': WHATEVER THE INPUT: true; the input reads as it did. -/
def locksNeverDeadlockSpec : ChangeSpec := { name := "locksNeverDeadlock", fn := fun _ => fun
  | [d] => { results := [.lit (.bool true)], args := [d] }
  | _ => none }
def locksNeverDeadlockRow : OpenClaim := { program := "ytbimkciejfbodaa", sum := "c77d8e05c60baef6c5e3e106c812b1ac384fa00d5db56143d3e4ef46cd3f83f3", func := "stemma/stemkeep5.LocksNeverDeadlock", spec := "locksNeverDeadlock", unfollowed := true, recurses := true, apart := false }
def LocksNeverDeadlockSaid : Prop := locksNeverDeadlockRow.holds Try.pinned (OpenSpec.ofChange locksNeverDeadlockSpec)

/-- ITS FALSE NEIGHBOUR: 'it returns false'. Refute it at one input. -/
def locksNeverDeadlockWrong : ChangeSpec := { name := "locksNeverDeadlock", fn := fun _ => fun
  | [d] => { results := [.lit (.bool false)], args := [d] }
  | _ => none }
def LocksNeverDeadlockWrongFalsely : Prop := locksNeverDeadlockRow.holds Try.pinned (OpenSpec.ofChange locksNeverDeadlockWrong)

/-- 'stemkeep5.LocksQueueIsFair': WHATEVER THE INPUT: true; the input reads as it did. -/
def locksQueueIsFairSpec : ChangeSpec := { name := "locksQueueIsFair", fn := fun _ => fun
  | [d] => { results := [.lit (.bool true)], args := [d] }
  | _ => none }
def locksQueueIsFairRow : OpenClaim := { program := "ytbimkciejfbodaa", sum := "c77d8e05c60baef6c5e3e106c812b1ac384fa00d5db56143d3e4ef46cd3f83f3", func := "stemma/stemkeep5.LocksQueueIsFair", spec := "locksQueueIsFair", unfollowed := true, recurses := true, apart := false }
def LocksQueueIsFairSaid : Prop := locksQueueIsFairRow.holds Try.pinned (OpenSpec.ofChange locksQueueIsFairSpec)

/-- ITS FALSE NEIGHBOUR: 'it returns false'. Refute it at one input. -/
def locksQueueIsFairWrong : ChangeSpec := { name := "locksQueueIsFair", fn := fun _ => fun
  | [d] => { results := [.lit (.bool false)], args := [d] }
  | _ => none }
def LocksQueueIsFairWrongFalsely : Prop := locksQueueIsFairRow.holds Try.pinned (OpenSpec.ofChange locksQueueIsFairWrong)

/-- 'stemkeep5.LocksGrantedAreCompatible': WHATEVER THE INPUT: true; the input reads as it did. -/
def locksGrantedAreCompatibleSpec : ChangeSpec := { name := "locksGrantedAreCompatible", fn := fun _ => fun
  | [d] => { results := [.lit (.bool true)], args := [d] }
  | _ => none }
def locksGrantedAreCompatibleRow : OpenClaim := { program := "ytbimkciejfbodaa", sum := "c77d8e05c60baef6c5e3e106c812b1ac384fa00d5db56143d3e4ef46cd3f83f3", func := "stemma/stemkeep5.LocksGrantedAreCompatible", spec := "locksGrantedAreCompatible", inPlace := ["internal/bytealg.abigen_runtime_cmpstring"], unfollowed := true, recurses := true, apart := false }
def LocksGrantedAreCompatibleSaid : Prop := locksGrantedAreCompatibleRow.holds Try.pinned (OpenSpec.ofChange locksGrantedAreCompatibleSpec)

/-- ITS FALSE NEIGHBOUR: 'it returns false'. Refute it at one input. -/
def locksGrantedAreCompatibleWrong : ChangeSpec := { name := "locksGrantedAreCompatible", fn := fun _ => fun
  | [d] => { results := [.lit (.bool false)], args := [d] }
  | _ => none }
def LocksGrantedAreCompatibleWrongFalsely : Prop := locksGrantedAreCompatibleRow.holds Try.pinned (OpenSpec.ofChange locksGrantedAreCompatibleWrong)

/-- 'stemkeep5.LocksAreEventuallyGranted': WHATEVER THE INPUT: true; the input reads as it did. -/
def locksAreEventuallyGrantedSpec : ChangeSpec := { name := "locksAreEventuallyGranted", fn := fun _ => fun
  | [d] => { results := [.lit (.bool true)], args := [d] }
  | _ => none }
def locksAreEventuallyGrantedRow : OpenClaim := { program := "ytbimkciejfbodaa", sum := "c77d8e05c60baef6c5e3e106c812b1ac384fa00d5db56143d3e4ef46cd3f83f3", func := "stemma/stemkeep5.LocksAreEventuallyGranted", spec := "locksAreEventuallyGranted", inPlace := ["internal/bytealg.abigen_runtime_cmpstring"], unfollowed := true, recurses := true, apart := false }
def LocksAreEventuallyGrantedSaid : Prop := locksAreEventuallyGrantedRow.holds Try.pinned (OpenSpec.ofChange locksAreEventuallyGrantedSpec)

/-- ITS FALSE NEIGHBOUR: 'it returns false'. Refute it at one input. -/
def locksAreEventuallyGrantedWrong : ChangeSpec := { name := "locksAreEventuallyGranted", fn := fun _ => fun
  | [d] => { results := [.lit (.bool false)], args := [d] }
  | _ => none }
def LocksAreEventuallyGrantedWrongFalsely : Prop := locksAreEventuallyGrantedRow.holds Try.pinned (OpenSpec.ofChange locksAreEventuallyGrantedWrong)

/-- 'stemkeep5.LocksReacquireIsIdempotent': WHATEVER THE INPUT: true; the input reads as it did. -/
def locksReacquireIsIdempotentSpec : ChangeSpec := { name := "locksReacquireIsIdempotent", fn := fun _ => fun
  | [d] => { results := [.lit (.bool true)], args := [d] }
  | _ => none }
def locksReacquireIsIdempotentRow : OpenClaim := { program := "ytbimkciejfbodaa", sum := "c77d8e05c60baef6c5e3e106c812b1ac384fa00d5db56143d3e4ef46cd3f83f3", func := "stemma/stemkeep5.LocksReacquireIsIdempotent", spec := "locksReacquireIsIdempotent", inPlace := ["internal/bytealg.abigen_runtime_cmpstring"], unfollowed := true, recurses := true, apart := false }
def LocksReacquireIsIdempotentSaid : Prop := locksReacquireIsIdempotentRow.holds Try.pinned (OpenSpec.ofChange locksReacquireIsIdempotentSpec)

/-- ITS FALSE NEIGHBOUR: 'it returns false'. Refute it at one input. -/
def locksReacquireIsIdempotentWrong : ChangeSpec := { name := "locksReacquireIsIdempotent", fn := fun _ => fun
  | [d] => { results := [.lit (.bool false)], args := [d] }
  | _ => none }
def LocksReacquireIsIdempotentWrongFalsely : Prop := locksReacquireIsIdempotentRow.holds Try.pinned (OpenSpec.ofChange locksReacquireIsIdempotentWrong)

/- THE SECOND FORM. 'bulk': how many values and letters a reading holds, each counted each time it is reached (what is shared counts as often as it is met; a slice's spare places count too). A statement '..UptoSaid' is the law's where the arguments, and the package variables that the reading takes, are together of bulk at most 1048576: NARROWER than '..Said'. Prove '..Said' where nothing that the law and all that it calls make is longer than what came in: it says more and counts as full. Else prove '..UptoSaid'. A law counts once. -/
mutual
def uptoBulk {H : Type} : DataW H → Nat
  | .lit (.string bytes) => bytes.length + 1
  | .lit _ => 1
  | .nil => 1
  | .ptr d => uptoBulk d + 1
  | .slice elems spare => uptoBulkAll elems + uptoBulkAll spare + 1
  | .agg parts => uptoBulkAll parts + 1
  | .iface _ d => uptoBulk d + 1
  | .map entries => uptoBulkEntries entries + 1
  | .held _ => 1
def uptoBulkAll {H : Type} : List (DataW H) → Nat
  | [] => 0
  | d :: r => uptoBulk d + uptoBulkAll r
def uptoBulkEntries {H : Type} : List (Lit × DataW H) → Nat
  | [] => 0
  | x :: r => uptoBulkEntry x + uptoBulkEntries r
def uptoBulkEntry {H : Type} : Lit × DataW H → Nat
  | (.string bytes, d) => bytes.length + uptoBulk d + 1
  | (_, d) => uptoBulk d + 1
 end
def uptoSmall : (H : Type) → List (DataW H) → Bool := fun _ ds => decide (uptoBulkAll ds ≤ 1048576)
def OpenSpec.upto (s : _root_.Go.ChangeSpec) : _root_.Go.OpenSpec := { _root_.Go.OpenSpec.ofChange s with cond := some uptoSmall }

/-- 'stemtop.TopTwoPhaseLockingIsSerializable', WHERE WHAT IT READS IS OF BULK AT MOST 1048576: true; the input reads as it did. -/
def topTwoPhaseLockingIsSerializableUptoRow : OpenClaim := { program := "ytbimkciejfbodaa", sum := "c77d8e05c60baef6c5e3e106c812b1ac384fa00d5db56143d3e4ef46cd3f83f3", func := "stemma/stemtop.TopTwoPhaseLockingIsSerializable", spec := "topTwoPhaseLockingIsSerializable", unfollowed := true, recurses := true, apart := false, narrowed := true }
def TopTwoPhaseLockingIsSerializableUptoSaid : Prop := topTwoPhaseLockingIsSerializableUptoRow.holds Try.pinned (OpenSpec.upto topTwoPhaseLockingIsSerializableSpec)

/-- 'stemkeep5.LocksSharedLocksCoexist', WHERE WHAT IT READS IS OF BULK AT MOST 1048576: true; the input reads as it did. -/
def locksSharedLocksCoexistUptoRow : OpenClaim := { program := "ytbimkciejfbodaa", sum := "c77d8e05c60baef6c5e3e106c812b1ac384fa00d5db56143d3e4ef46cd3f83f3", func := "stemma/stemkeep5.LocksSharedLocksCoexist", spec := "locksSharedLocksCoexist", unfollowed := true, recurses := true, apart := false, narrowed := true }
def LocksSharedLocksCoexistUptoSaid : Prop := locksSharedLocksCoexistUptoRow.holds Try.pinned (OpenSpec.upto locksSharedLocksCoexistSpec)

/-- 'stemkeep5.LocksNeverDeadlock', WHERE WHAT IT READS IS OF BULK AT MOST 1048576: true; the input reads as it did. -/
def locksNeverDeadlockUptoRow : OpenClaim := { program := "ytbimkciejfbodaa", sum := "c77d8e05c60baef6c5e3e106c812b1ac384fa00d5db56143d3e4ef46cd3f83f3", func := "stemma/stemkeep5.LocksNeverDeadlock", spec := "locksNeverDeadlock", unfollowed := true, recurses := true, apart := false, narrowed := true }
def LocksNeverDeadlockUptoSaid : Prop := locksNeverDeadlockUptoRow.holds Try.pinned (OpenSpec.upto locksNeverDeadlockSpec)

/-- 'stemkeep5.LocksQueueIsFair', WHERE WHAT IT READS IS OF BULK AT MOST 1048576: true; the input reads as it did. -/
def locksQueueIsFairUptoRow : OpenClaim := { program := "ytbimkciejfbodaa", sum := "c77d8e05c60baef6c5e3e106c812b1ac384fa00d5db56143d3e4ef46cd3f83f3", func := "stemma/stemkeep5.LocksQueueIsFair", spec := "locksQueueIsFair", unfollowed := true, recurses := true, apart := false, narrowed := true }
def LocksQueueIsFairUptoSaid : Prop := locksQueueIsFairUptoRow.holds Try.pinned (OpenSpec.upto locksQueueIsFairSpec)

/-- 'stemkeep5.LocksGrantedAreCompatible', WHERE WHAT IT READS IS OF BULK AT MOST 1048576: true; the input reads as it did. -/
def locksGrantedAreCompatibleUptoRow : OpenClaim := { program := "ytbimkciejfbodaa", sum := "c77d8e05c60baef6c5e3e106c812b1ac384fa00d5db56143d3e4ef46cd3f83f3", func := "stemma/stemkeep5.LocksGrantedAreCompatible", spec := "locksGrantedAreCompatible", inPlace := ["internal/bytealg.abigen_runtime_cmpstring"], unfollowed := true, recurses := true, apart := false, narrowed := true }
def LocksGrantedAreCompatibleUptoSaid : Prop := locksGrantedAreCompatibleUptoRow.holds Try.pinned (OpenSpec.upto locksGrantedAreCompatibleSpec)

/-- 'stemkeep5.LocksAreEventuallyGranted', WHERE WHAT IT READS IS OF BULK AT MOST 1048576: true; the input reads as it did. -/
def locksAreEventuallyGrantedUptoRow : OpenClaim := { program := "ytbimkciejfbodaa", sum := "c77d8e05c60baef6c5e3e106c812b1ac384fa00d5db56143d3e4ef46cd3f83f3", func := "stemma/stemkeep5.LocksAreEventuallyGranted", spec := "locksAreEventuallyGranted", inPlace := ["internal/bytealg.abigen_runtime_cmpstring"], unfollowed := true, recurses := true, apart := false, narrowed := true }
def LocksAreEventuallyGrantedUptoSaid : Prop := locksAreEventuallyGrantedUptoRow.holds Try.pinned (OpenSpec.upto locksAreEventuallyGrantedSpec)

/-- 'stemkeep5.LocksReacquireIsIdempotent', WHERE WHAT IT READS IS OF BULK AT MOST 1048576: true; the input reads as it did. -/
def locksReacquireIsIdempotentUptoRow : OpenClaim := { program := "ytbimkciejfbodaa", sum := "c77d8e05c60baef6c5e3e106c812b1ac384fa00d5db56143d3e4ef46cd3f83f3", func := "stemma/stemkeep5.LocksReacquireIsIdempotent", spec := "locksReacquireIsIdempotent", inPlace := ["internal/bytealg.abigen_runtime_cmpstring"], unfollowed := true, recurses := true, apart := false, narrowed := true }
def LocksReacquireIsIdempotentUptoSaid : Prop := locksReacquireIsIdempotentUptoRow.holds Try.pinned (OpenSpec.upto locksReacquireIsIdempotentSpec)

end Rows
end Go.Proofs.Ytbimkciejfbodaa
