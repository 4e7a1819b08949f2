/- strings.Compare. -/
import Derived.Test.YtbimkciejfbodaaSo
namespace Go.Proofs.Ytbimkciejfbodaa.So
open Go Go.RowKit Hp
set_option linter.unusedVariables false

set_option maxRecDepth 100000 in
set_option maxHeartbeats 1000000 in
theorem cmps_any (a b : ByteArray) (w : World) : Calls Try.prog 67 #[.string a, .string b] w fun e w' => e = .returned (.int .i64 (scmp a b)) ∧ w' = w := by
  go_enter Try.func67, Try.ntmps67
  go_wp2
  rw [run_callFunc_extern Try.func81 (by kernel_rfl) (by kernel_rfl) (by kernel_rfl) (e := Extern.BytealgCompare.compare) (by kernel_rfl), Lib.run_compareString]
  simp only [Result.andThen]
  rw [Oper.upon_value]
  go_wp2
  go_ret
  exact ⟨rfl, rfl⟩
set_option maxRecDepth 100000 in
set_option maxHeartbeats 1000000 in
theorem cmp_any (a b : ByteArray) (w : World) : Calls Try.prog 53 #[.string a, .string b] w fun e w' => e = .returned (.int .i64 (scmp a b)) ∧ w' = w := by
  go_enter Try.func53, Try.ntmps53
  go_wp2_with (go_at_call 67; refine (cmps_any _ _ _).mono ?_; rintro e w' ⟨rfl, rfl⟩)
  go_ret
  exact ⟨rfl, rfl⟩

end Go.Proofs.Ytbimkciejfbodaa.So
