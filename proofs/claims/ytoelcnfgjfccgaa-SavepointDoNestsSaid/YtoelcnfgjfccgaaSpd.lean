/- slices.Clone at entries and at rows of entries. -/
import Derived.Test.YtoelcnfgjfccgaaSpc
namespace Go.Proofs.Ytoelcnfgjfccgaa.Sp
open Go Go.RowKit Hp
set_option linter.unusedVariables false

theorem Try.info_cloneE : (Try.prog.info? 48).map (fun i => (i.zero, i.size, i.bytes)) = some (some (.agg #[.string ByteArray.empty, .int .i64 0]), 2, 24) := by kernel_rfl
set_option maxRecDepth 100000 in
set_option maxHeartbeats 1000000 in
theorem cloneE (v : Value) (n : Nat) (xs : List Value) (w : World) (h : Src w 2 v n xs) (h1 : ∀ u ∈ xs, u.oneCell' = true) (hn : n * 24 ≤ 140737488355328) :
    Calls Try.prog 47 #[v] w fun e w' => ∃ v', e = .returned v' ∧ w'.ownsRow w.heap.size 48 2 v' n xs ∧ Up w w' := by
  obtain ⟨i0, hi, hz0, hz1, hz2⟩ := info_parts Try.info_cloneE
  obtain ⟨hx, h⟩ := h
  have hq := fun (a : Option Addr) (n c n' c' : Nat) (w : World) => Lib.run_eql_slice_nil (P := Try.prog) w 45 48 a n c n' c' Try.underlying45
  rcases h with ⟨rfl, rfl⟩ | ⟨b, off, cap, rfl, hc1, hc2, hc3⟩
  · obtain rfl : xs = [] := List.eq_nil_of_length_eq_zero (by simpa using hx)
    go_enter Try.func47, Try.ntmps47
    go_wp2
    go_ret
    exact ⟨_, rfl, World.ownsRow_nil _ _ _ _, Up.refl _⟩
  · have HX := Lib.hid hx
    have H1 := Lib.hid h1
    have H3 : Hid (∀ j u, xs[j]? = some u → (w.alloc (.cells #[] 48)).cell? ((⟨b, off, none⟩ : Addr).add j) = some u) := fun j u hj => by
      rw [Addr.add_lit]; exact ((hc3 j u hj).grow ((Up.refl w).alloc _)).2
    clear hx hc3 h1
    go_enter Try.func47, Try.ntmps47
    go_wp2_with (at_builtin; refine wpList_append_own _ rfl (.tmp 5) (.tmp 6) 45 rfl w.heap.size 48 i0 (.agg #[.string ByteArray.empty, .int .i64 0]) 2 24 Try.underlying45 hi hz0 hz1 hz2 rfl (by decide) _ _ _ rfl (own_empty w 48 2) ⟨b, off, none⟩ n cap xs rfl HX.out H3.out H1.out (by unfold maxLen; omega) (by omega) (by simp) ?_)
    intro v' w2 hown hg hnil
    have hnil := Lib.hid hnil
    have hu : Up w w2 := Below.grown ((Up.refl w).alloc (.cells #[] 48)) hg (by simp) fun j hj => by simp [Value.ownBlock] at hj; omega
    clear hg
    go_wp2
    go_ret
    exact ⟨_, rfl, by simpa using hown, hu⟩

theorem Try.info_cloneS : (Try.prog.info? 45).map (fun i => (i.zero, i.size, i.bytes)) = some (some (.slice none 0 0), 1, 24) := by kernel_rfl
set_option maxRecDepth 100000 in
set_option maxHeartbeats 1000000 in
theorem cloneS (v : Value) (n : Nat) (xs : List Value) (w : World) (h : Src w 1 v n xs) (h1 : ∀ u ∈ xs, u.oneCell' = true) (hn : n * 24 ≤ 140737488355328) :
    Calls Try.prog 49 #[v] w fun e w' => ∃ v', e = .returned v' ∧ w'.ownsRow w.heap.size 45 1 v' n xs ∧ Up w w' := by
  obtain ⟨i0, hi, hz0, hz1, hz2⟩ := info_parts Try.info_cloneS
  obtain ⟨hx, h⟩ := h
  have hq := fun (a : Option Addr) (n c n' c' : Nat) (w : World) => Lib.run_eql_slice_nil (P := Try.prog) w 76 45 a n c n' c' Try.underlying76
  rcases h with ⟨rfl, rfl⟩ | ⟨b, off, cap, rfl, hc1, hc2, hc3⟩
  · obtain rfl : xs = [] := List.eq_nil_of_length_eq_zero (by simpa using hx)
    go_enter Try.func49, Try.ntmps49
    go_wp2
    go_ret
    exact ⟨_, rfl, World.ownsRow_nil _ _ _ _, Up.refl _⟩
  · have HX := Lib.hid hx
    have H1 := Lib.hid h1
    have H3 : Hid (∀ j u, xs[j]? = some u → (w.alloc (.cells #[] 45)).cell? ((⟨b, off, none⟩ : Addr).add j) = some u) := fun j u hj => by
      rw [Addr.add_lit]; exact ((hc3 j u hj).grow ((Up.refl w).alloc _)).2
    clear hx hc3 h1
    go_enter Try.func49, Try.ntmps49
    go_wp2_with (at_builtin; refine wpList_append_own _ rfl (.tmp 5) (.tmp 6) 76 rfl w.heap.size 45 i0 (.slice none 0 0) 1 24 Try.underlying76 hi hz0 hz1 hz2 rfl (by decide) _ _ _ rfl (own_empty w 45 1) ⟨b, off, none⟩ n cap xs rfl HX.out H3.out H1.out (by unfold maxLen; omega) (by omega) (by simp) ?_)
    intro v' w2 hown hg hnil
    have hnil := Lib.hid hnil
    have hu : Up w w2 := Below.grown ((Up.refl w).alloc (.cells #[] 45)) hg (by simp) fun j hj => by simp [Value.ownBlock] at hj; omega
    clear hg
    go_wp2
    go_ret
    exact ⟨_, rfl, by simpa using hown, hu⟩

end Go.Proofs.Ytoelcnfgjfccgaa.Sp
