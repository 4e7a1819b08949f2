/- slices.Clone at entries. -/
import Derived.Test.YtmaeeidaegigcaaSl
namespace Go.Proofs.Ytmaeeidaegigcaa.Ck
open Go Go.RowKit Hp
set_option linter.unusedVariables false

theorem Try.info_cloneE : (Try.prog.info? 62).map (fun i => (i.zero, i.size, i.bytes)) = some (some (.agg #[.string ByteArray.empty, .string ByteArray.empty]), 2, 32) := by kernel_rfl
set_option maxRecDepth 100000 in
set_option maxHeartbeats 1000000 in
theorem cloneE (v : Value) (n : Nat) (xs : List Value) (w : World) (h : Src w 2 v n xs) (h1 : ∀ u ∈ xs, u.oneCell' = true) (hn : n * 32 ≤ 140737488355328) :
    Calls Try.prog 54 #[v] w fun e w' => ∃ v', e = .returned v' ∧ w'.ownsRow w.heap.size 62 2 v' n xs ∧ Up w w' := by
  obtain ⟨i0, hi, hz0, hz1, hz2⟩ := info_parts Try.info_cloneE
  obtain ⟨hx, h⟩ := h
  have hq := fun (a : Option Addr) (n c n' c' : Nat) (w : World) => Lib.run_eql_slice_nil (P := Try.prog) w 67 62 a n c n' c' Try.underlying67
  rcases h with ⟨rfl, rfl⟩ | ⟨b, off, cap, rfl, hc1, hc2, hc3⟩
  · obtain rfl : xs = [] := List.eq_nil_of_length_eq_zero (by simpa using hx)
    go_enter Try.func54, Try.ntmps54
    go_wp2
    go_ret
    exact ⟨_, rfl, World.ownsRow_nil _ _ _ _, Up.refl _⟩
  · have HX := Lib.hid hx
    have H1 := Lib.hid h1
    have H3 : Hid (∀ j u, xs[j]? = some u → (w.alloc (.cells #[] 62)).cell? ((⟨b, off, none⟩ : Addr).add j) = some u) := fun j u hj => by
      rw [Addr.add_lit]; exact ((hc3 j u hj).grow ((Up.refl w).alloc _)).2
    clear hx hc3 h1
    go_enter Try.func54, Try.ntmps54
    go_wp2_with (at_builtin; refine wpList_append_own _ rfl (.tmp 5) (.tmp 6) 67 rfl w.heap.size 62 i0 (.agg #[.string ByteArray.empty, .string ByteArray.empty]) 2 32 Try.underlying67 hi hz0 hz1 hz2 rfl (by decide) _ _ _ rfl (own_empty w 62 2) ⟨b, off, none⟩ n cap xs rfl HX.out H3.out H1.out (by unfold maxLen; omega) (by omega) (by simp) ?_)
    intro v' w2 hown hg hnil
    have hnil := Lib.hid hnil
    have hu : Up w w2 := Below.grown ((Up.refl w).alloc (.cells #[] 62)) hg (by simp) fun j hj => by simp [Value.ownBlock] at hj; omega
    clear hg
    go_wp2
    go_ret
    exact ⟨_, rfl, by simpa using hown, hu⟩

end Go.Proofs.Ytmaeeidaegigcaa.Ck
