/- savepointWorks. -/
import Derived.Test.YtoelcnfgjfccgaaSpk
namespace Go.Proofs.Ytoelcnfgjfccgaa.Sp
open Go Go.RowKit Hp So
set_option linter.unusedVariables false

def kA : ByteArray := { data := #[97] }
def kB : ByteArray := { data := #[98] }
theorem okA : WOk [(kA, 5)] := ⟨List.pairwise_singleton .., by simp, fun e he => by rw [List.mem_singleton.1 he]; decide⟩
theorem putB : putL [(kA, 5)] kB 6 = ([(kA, 5), (kB, 6)], 0) := by decide
theorem getB : getL [(kA, 5), (kB, 6)] kB = (6, 0) := by decide

set_option maxRecDepth 100000 in
set_option maxHeartbeats 1000000 in
theorem works_any (w : World) : Calls Try.prog 21 #[] w fun e w' => e = .returned (.bool true) ∧ Up w w' := by
  have S0 : Hid (Src (w.alloc (.cells #[.string kA, .int .i64 5] 48)) 2 (.slice (some ⟨w.heap.size, 0, none⟩) 1 1) 1 (ec [(kA, 5)])) := blk_src (Blk.new w _ _) rfl (Nat.le_refl _) (by omega)
  go_enter Try.func21, Try.ntmps21
  go_wp2_with (first
    | (go_at_call 22; refine (new_any _ [(kA, 5)] _ S0.out okA).mono ?_; rintro e w1 ⟨p, rfl, h1, h2⟩; have H1 := Lib.hid h1; have H2 := Lib.hid h2; clear h1 h2)
    | (go_at_call 44; refine (put_any p _ [] _ kB 6 _ H1.out).mono ?_; rw [putB]; rintro e w2 ⟨rfl, h3⟩; have H3 := Lib.hid h3; clear h3)
    | (go_at_call 25; refine (get_any p _ [] _ kB _ H3.out.1).mono ?_; rw [getB]; rintro e w3 ⟨rfl, h4⟩; have H4 := Lib.hid h4; clear h4))
  go_ret
  exact ⟨rfl, ((((((Up.refl w).alloc _).trans H2.out).chg fun _ => False).trans H3.out.2 fun j hj e => by have := e.1; simp at this; omega).up fun _ _ e => e).trans H4.out⟩
theorem src_nil (w : World) : Src w 2 (.slice none 0 0) ([] : Ws).length (ec []) := ⟨rfl, .inl ⟨rfl, rfl⟩⟩
end Go.Proofs.Ytoelcnfgjfccgaa.Sp
