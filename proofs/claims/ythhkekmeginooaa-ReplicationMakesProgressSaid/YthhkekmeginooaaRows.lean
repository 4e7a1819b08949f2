/-
  No cell of these rows narrows 'for every input' (looked for: loops, veiled, ifaces, maps, wideKeys, modest, calm, conditions, laid).
  DERIVED. THE GIVEN ROWS OF THIS SEAT. 5 by the template 'for every input the law returns true; each argument reads behind the call as it read before'; 0 by the template 'total and deterministic' (their statements: YthhkekmeginooaaTotals.lean).
  GIVEN WITH THE SEED: the statements are not yours to turn. If you find one false, say at which input.
  Laid BY PROGRAM, IN A SANDBOX (cutbox-rows.mjs): the forced cells as the released guide's own fill.sh prints them over the translation edcb75c06e9b5454… (all of the seat's roots in one cut). By AI agents, Wed Nov 11 2026. No macro, syntax, notation, axiom, sorry.
-/
import Derived.Test.YthhkekmeginooaaChecked
import GoSem.Claim
import GoSem.ClaimJoined
import GoSem.ClaimMapViews
import Derived.JoinedTies
import Derived.KernelRfl
namespace Go.Proofs.Ythhkekmeginooaa
/- THE CELL 'sum', in the pinned program and in every row, IS THE sha256 OF THE DUMP (.gsa) THAT YthhkekmeginooaaProg.lean LOADS. Nothing in Lean hashes anything: it is a label: what it is worth is what the hold of that sum in a sandbox is worth. -/
noncomputable def Try.pinned : Pinned := { name := "ythhkekmeginooaa", sum := "edcb75c06e9b54541e81e4c3f2ffd4d08753997e24892b3257b9217dd7f09b95", checked := Try.checked }
namespace Rows
def none {H : Type} : Left H := { results := [], args := [] }

/-- 'stemkeep5.ReplicationMinorityCannotCommit': WHATEVER THE INPUT: true; the input reads as it did. -/
def replicationMinorityCannotCommitSpec : ChangeSpec := { name := "replicationMinorityCannotCommit", fn := fun _ => fun
  | [d1, d2] => { results := [.lit (.bool true)], args := [d1, d2] }
  | _ => none }
def replicationMinorityCannotCommitRow : OpenClaim := { program := "ythhkekmeginooaa", sum := "edcb75c06e9b54541e81e4c3f2ffd4d08753997e24892b3257b9217dd7f09b95", func := "stemma/stemkeep5.ReplicationMinorityCannotCommit", spec := "replicationMinorityCannotCommit", recurses := true, apart := false }
def ReplicationMinorityCannotCommitSaid : Prop := replicationMinorityCannotCommitRow.holds Try.pinned (OpenSpec.ofChange replicationMinorityCannotCommitSpec)

/-- ITS FALSE NEIGHBOUR: 'it returns false'. Refute it at one input. -/
def replicationMinorityCannotCommitWrong : ChangeSpec := { name := "replicationMinorityCannotCommit", fn := fun _ => fun
  | [d1, d2] => { results := [.lit (.bool false)], args := [d1, d2] }
  | _ => none }
def ReplicationMinorityCannotCommitWrongFalsely : Prop := replicationMinorityCannotCommitRow.holds Try.pinned (OpenSpec.ofChange replicationMinorityCannotCommitWrong)

/-- 'stemkeep5.ReplicationMakesProgress': WHATEVER THE INPUT: true; the input reads as it did. -/
def replicationMakesProgressSpec : ChangeSpec := { name := "replicationMakesProgress", fn := fun _ => fun
  | [d1, d2] => { results := [.lit (.bool true)], args := [d1, d2] }
  | _ => none }
def replicationMakesProgressRow : OpenClaim := { program := "ythhkekmeginooaa", sum := "edcb75c06e9b54541e81e4c3f2ffd4d08753997e24892b3257b9217dd7f09b95", func := "stemma/stemkeep5.ReplicationMakesProgress", spec := "replicationMakesProgress", unfollowed := true, recurses := true, apart := false }
def ReplicationMakesProgressSaid : Prop := replicationMakesProgressRow.holds Try.pinned (OpenSpec.ofChange replicationMakesProgressSpec)

/-- ITS FALSE NEIGHBOUR: 'it returns false'. Refute it at one input. -/
def replicationMakesProgressWrong : ChangeSpec := { name := "replicationMakesProgress", fn := fun _ => fun
  | [d1, d2] => { results := [.lit (.bool false)], args := [d1, d2] }
  | _ => none }
def ReplicationMakesProgressWrongFalsely : Prop := replicationMakesProgressRow.holds Try.pinned (OpenSpec.ofChange replicationMakesProgressWrong)

/-- 'stemkeep5.ReplicationCommittedEntriesAreNeverLost': WHATEVER THE INPUT: true; the input reads as it did. -/
def replicationCommittedEntriesAreNeverLostSpec : ChangeSpec := { name := "replicationCommittedEntriesAreNeverLost", fn := fun _ => fun
  | [d1, d2] => { results := [.lit (.bool true)], args := [d1, d2] }
  | _ => none }
def replicationCommittedEntriesAreNeverLostRow : OpenClaim := { program := "ythhkekmeginooaa", sum := "edcb75c06e9b54541e81e4c3f2ffd4d08753997e24892b3257b9217dd7f09b95", func := "stemma/stemkeep5.ReplicationCommittedEntriesAreNeverLost", spec := "replicationCommittedEntriesAreNeverLost", unfollowed := true, recurses := true, apart := false }
def ReplicationCommittedEntriesAreNeverLostSaid : Prop := replicationCommittedEntriesAreNeverLostRow.holds Try.pinned (OpenSpec.ofChange replicationCommittedEntriesAreNeverLostSpec)

/-- ITS FALSE NEIGHBOUR: 'it returns false'. Refute it at one input. -/
def replicationCommittedEntriesAreNeverLostWrong : ChangeSpec := { name := "replicationCommittedEntriesAreNeverLost", fn := fun _ => fun
  | [d1, d2] => { results := [.lit (.bool false)], args := [d1, d2] }
  | _ => none }
def ReplicationCommittedEntriesAreNeverLostWrongFalsely : Prop := replicationCommittedEntriesAreNeverLostRow.holds Try.pinned (OpenSpec.ofChange replicationCommittedEntriesAreNeverLostWrong)

/-- 'stemkeep5.ReplicationLogsMatch': WHATEVER THE INPUT: true; the input reads as it did. -/
def replicationLogsMatchSpec : ChangeSpec := { name := "replicationLogsMatch", fn := fun _ => fun
  | [d1, d2] => { results := [.lit (.bool true)], args := [d1, d2] }
  | _ => none }
def replicationLogsMatchRow : OpenClaim := { program := "ythhkekmeginooaa", sum := "edcb75c06e9b54541e81e4c3f2ffd4d08753997e24892b3257b9217dd7f09b95", func := "stemma/stemkeep5.ReplicationLogsMatch", spec := "replicationLogsMatch", unfollowed := true, recurses := true, apart := false }
def ReplicationLogsMatchSaid : Prop := replicationLogsMatchRow.holds Try.pinned (OpenSpec.ofChange replicationLogsMatchSpec)

/-- ITS FALSE NEIGHBOUR: 'it returns false'. Refute it at one input. -/
def replicationLogsMatchWrong : ChangeSpec := { name := "replicationLogsMatch", fn := fun _ => fun
  | [d1, d2] => { results := [.lit (.bool false)], args := [d1, d2] }
  | _ => none }
def ReplicationLogsMatchWrongFalsely : Prop := replicationLogsMatchRow.holds Try.pinned (OpenSpec.ofChange replicationLogsMatchWrong)

/-- 'stemkeep5.ReplicationLeaderIsComplete': WHATEVER THE INPUT: true; the input reads as it did. -/
def replicationLeaderIsCompleteSpec : ChangeSpec := { name := "replicationLeaderIsComplete", fn := fun _ => fun
  | [d1, d2, d3, d4, d5] => { results := [.lit (.bool true)], args := [d1, d2, d3, d4, d5] }
  | _ => none }
def replicationLeaderIsCompleteRow : OpenClaim := { program := "ythhkekmeginooaa", sum := "edcb75c06e9b54541e81e4c3f2ffd4d08753997e24892b3257b9217dd7f09b95", func := "stemma/stemkeep5.ReplicationLeaderIsComplete", spec := "replicationLeaderIsComplete", unfollowed := true, recurses := true, apart := false }
def ReplicationLeaderIsCompleteSaid : Prop := replicationLeaderIsCompleteRow.holds Try.pinned (OpenSpec.ofChange replicationLeaderIsCompleteSpec)

/-- ITS FALSE NEIGHBOUR: 'it returns false'. Refute it at one input. -/
def replicationLeaderIsCompleteWrong : ChangeSpec := { name := "replicationLeaderIsComplete", fn := fun _ => fun
  | [d1, d2, d3, d4, d5] => { results := [.lit (.bool false)], args := [d1, d2, d3, d4, d5] }
  | _ => none }
def ReplicationLeaderIsCompleteWrongFalsely : Prop := replicationLeaderIsCompleteRow.holds Try.pinned (OpenSpec.ofChange replicationLeaderIsCompleteWrong)

/- THE SECOND FORM. 'bulk': how many values and letters a reading holds, each counted each time it is reached (what is shared counts as often as it is met; a slice's spare places count too). A statement '..UptoSaid' is the law's where the arguments, and the package variables that the reading takes, are together of bulk at most 1048576: NARROWER than '..Said'. Prove '..Said' where nothing that the law and all that it calls make is longer than what came in: it says more and counts as full. Else prove '..UptoSaid'. A law counts once. -/
mutual
def uptoBulk {H : Type} : DataW H → Nat
  | .lit (.string bytes) => bytes.length + 1
  | .lit _ => 1
  | .nil => 1
  | .ptr d => uptoBulk d + 1
  | .slice elems spare => uptoBulkAll elems + uptoBulkAll spare + 1
  | .agg parts => uptoBulkAll parts + 1
  | .iface _ d => uptoBulk d + 1
  | .map entries => uptoBulkEntries entries + 1
  | .held _ => 1
def uptoBulkAll {H : Type} : List (DataW H) → Nat
  | [] => 0
  | d :: r => uptoBulk d + uptoBulkAll r
def uptoBulkEntries {H : Type} : List (Lit × DataW H) → Nat
  | [] => 0
  | x :: r => uptoBulkEntry x + uptoBulkEntries r
def uptoBulkEntry {H : Type} : Lit × DataW H → Nat
  | (.string bytes, d) => bytes.length + uptoBulk d + 1
  | (_, d) => uptoBulk d + 1
 end
def uptoSmall : (H : Type) → List (DataW H) → Bool := fun _ ds => decide (uptoBulkAll ds ≤ 1048576)
def OpenSpec.upto (s : _root_.Go.ChangeSpec) : _root_.Go.OpenSpec := { _root_.Go.OpenSpec.ofChange s with cond := some uptoSmall }

/-- 'stemkeep5.ReplicationMinorityCannotCommit', WHERE WHAT IT READS IS OF BULK AT MOST 1048576: true; the input reads as it did. -/
def replicationMinorityCannotCommitUptoRow : OpenClaim := { program := "ythhkekmeginooaa", sum := "edcb75c06e9b54541e81e4c3f2ffd4d08753997e24892b3257b9217dd7f09b95", func := "stemma/stemkeep5.ReplicationMinorityCannotCommit", spec := "replicationMinorityCannotCommit", recurses := true, apart := false, narrowed := true }
def ReplicationMinorityCannotCommitUptoSaid : Prop := replicationMinorityCannotCommitUptoRow.holds Try.pinned (OpenSpec.upto replicationMinorityCannotCommitSpec)

/-- 'stemkeep5.ReplicationMakesProgress', WHERE WHAT IT READS IS OF BULK AT MOST 1048576: true; the input reads as it did. -/
def replicationMakesProgressUptoRow : OpenClaim := { program := "ythhkekmeginooaa", sum := "edcb75c06e9b54541e81e4c3f2ffd4d08753997e24892b3257b9217dd7f09b95", func := "stemma/stemkeep5.ReplicationMakesProgress", spec := "replicationMakesProgress", unfollowed := true, recurses := true, apart := false, narrowed := true }
def ReplicationMakesProgressUptoSaid : Prop := replicationMakesProgressUptoRow.holds Try.pinned (OpenSpec.upto replicationMakesProgressSpec)

/-- 'stemkeep5.ReplicationCommittedEntriesAreNeverLost', WHERE WHAT IT READS IS OF BULK AT MOST 1048576: true; the input reads as it did. -/
def replicationCommittedEntriesAreNeverLostUptoRow : OpenClaim := { program := "ythhkekmeginooaa", sum := "edcb75c06e9b54541e81e4c3f2ffd4d08753997e24892b3257b9217dd7f09b95", func := "stemma/stemkeep5.ReplicationCommittedEntriesAreNeverLost", spec := "replicationCommittedEntriesAreNeverLost", unfollowed := true, recurses := true, apart := false, narrowed := true }
def ReplicationCommittedEntriesAreNeverLostUptoSaid : Prop := replicationCommittedEntriesAreNeverLostUptoRow.holds Try.pinned (OpenSpec.upto replicationCommittedEntriesAreNeverLostSpec)

/-- 'stemkeep5.ReplicationLogsMatch', WHERE WHAT IT READS IS OF BULK AT MOST 1048576: true; the input reads as it did. -/
def replicationLogsMatchUptoRow : OpenClaim := { program := "ythhkekmeginooaa", sum := "edcb75c06e9b54541e81e4c3f2ffd4d08753997e24892b3257b9217dd7f09b95", func := "stemma/stemkeep5.ReplicationLogsMatch", spec := "replicationLogsMatch", unfollowed := true, recurses := true, apart := false, narrowed := true }
def ReplicationLogsMatchUptoSaid : Prop := replicationLogsMatchUptoRow.holds Try.pinned (OpenSpec.upto replicationLogsMatchSpec)

/-- 'stemkeep5.ReplicationLeaderIsComplete', WHERE WHAT IT READS IS OF BULK AT MOST 1048576: true; the input reads as it did. -/
def replicationLeaderIsCompleteUptoRow : OpenClaim := { program := "ythhkekmeginooaa", sum := "edcb75c06e9b54541e81e4c3f2ffd4d08753997e24892b3257b9217dd7f09b95", func := "stemma/stemkeep5.ReplicationLeaderIsComplete", spec := "replicationLeaderIsComplete", unfollowed := true, recurses := true, apart := false, narrowed := true }
def ReplicationLeaderIsCompleteUptoSaid : Prop := replicationLeaderIsCompleteUptoRow.holds Try.pinned (OpenSpec.upto replicationLeaderIsCompleteSpec)

end Rows
end Go.Proofs.Ythhkekmeginooaa
