/- strings.Compare. -/
import Derived.Test.YtnbhdpmhgamjfaaSo
namespace Go.Proofs.Ytnbhdpmhgamjfaa.So
open Go Go.RowKit Hp
set_option linter.unusedVariables false

set_option maxRecDepth 100000 in
set_option maxHeartbeats 1000000 in
theorem cmps_any (a b : ByteArray) (w : World) : Calls Try.prog 65 #[.string a, .string b] w fun e w' => e = .returned (.int .i64 (scmp a b)) ∧ w' = w := by
  go_enter Try.func65, Try.ntmps65
  go_wp2
  rw [run_callFunc_extern Try.func72 (by kernel_rfl) (by kernel_rfl) (by kernel_rfl) (e := Extern.BytealgCompare.compare) (by kernel_rfl), Lib.run_compareString]
  simp only [Result.andThen]
  rw [Oper.upon_value]
  go_wp2
  go_ret
  exact ⟨rfl, rfl⟩
set_option maxRecDepth 100000 in
set_option maxHeartbeats 1000000 in
theorem cmp_any (a b : ByteArray) (w : World) : Calls Try.prog 51 #[.string a, .string b] w fun e w' => e = .returned (.int .i64 (scmp a b)) ∧ w' = w := by
  go_enter Try.func51, Try.ntmps51
  go_wp2_with (go_at_call 65; refine (cmps_any _ _ _).mono ?_; rintro e w' ⟨rfl, rfl⟩)
  go_ret
  exact ⟨rfl, rfl⟩

end Go.Proofs.Ytnbhdpmhgamjfaa.So
