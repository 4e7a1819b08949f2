/- append(own, make([]T, k)...): zeros behind an own row, elements of one cell. -/
import Derived.Test.YtmaeeidaegigcaaSl
namespace Go.Proofs.Ytmaeeidaegigcaa.Hp
open Go Go.RowKit
set_option linter.unusedVariables false

theorem zeroCells_rep (z : Value) (k : Nat) : (Builtin.zeroCells #[z] k).toList = List.replicate k z := by
  refine List.ext_getElem (by simp [Builtin.zeroCells]) fun i h1 h2 => ?_
  simp [Builtin.zeroCells, Nat.mod_one]
theorem nsc_le (n c : Nat) (hn : n ≤ 100000) (hc : c < n) : Builtin.nextslicecap n c ≤ 1000000 := by
  unfold Builtin.nextslicecap
  split
  · omega
  · split
    · omega
    · simp only [Builtin.growBy]
      repeat' split
      all_goals omega
theorem run_append_own_zeros {P : Program} (w : World) (base : Nat) (t tn ty e : TypeId) (i : TypeInfo) (z : Value) (kq kn : IntKind) (ht : P.underlying t = some (.slice e)) (htn : P.underlying tn = some (.int kn)) (hi : P.info? e = some i) (hz : i.zero = some z)
    (hsize : i.size = 1) (hby : i.bytes = 1) (hzs : z.cells = #[z]) (h1z : z.oneCell' = true) (g n cap : Nat) (xs : List Value) (hown : w.ownsRow base e 1 (.slice (some ⟨g, 0, none⟩) n cap) n xs) (k : Nat) (hk : n + k ≤ 100000) (hbase : base ≤ w.heap.size) :
    ∃ g' c' w', (Builtin.append_ #[t, tn] ty #[.slice (some ⟨g, 0, none⟩) n cap, .int kq (k : Int)]).run P w = .ok (.slice (some ⟨g', 0, none⟩) (n + k) c') w' ∧ w'.ownsRow base e 1 (.slice (some ⟨g', 0, none⟩) (n + k) c') (n + k) (xs ++ List.replicate k z) ∧ w.grownBy w' (some g) ∧ (g' = g ∨ g' = w.heap.size) := by
  have hw : IntKind.i64.wrap (k : Int) = k := by rw [IntKind.wrap_i64]; omega
  have hneg : ¬ ((k : Int) < 0) := by omega
  have h48i : ¬ (281474976710656 < (k : Int)) := by omega
  obtain ⟨hx, h⟩ := hown
  rw [Nat.mul_one] at hx
  rcases h with ⟨e1, _⟩ | ⟨g0, cap0, cur, e1, hbg, hg, hnc, hcm, hcs, htake⟩
  · cases e1
  cases e1
  rw [Nat.mul_one] at hcs
  have hlen : (xs ++ List.replicate k z).length = (n + k) * 1 := by rw [List.length_append, hx, List.length_replicate, Nat.mul_one]
  by_cases h0 : k = 0
  · subst h0
    refine ⟨g, cap, w, ?_, ⟨by simpa using hlen, .inr ⟨g, cap, cur, rfl, hbg, hg, hnc, hcm, by omega, by simpa using htake⟩⟩, ⟨rfl, rfl, rfl, Nat.le_refl _, fun _ _ _ => rfl⟩, .inl rfl⟩
    have hw0 : IntKind.i64.wrap 0 = 0 := by decide
    simp [Builtin.append_, run_underlying ht, run_underlying htn, sizeOf, typeInfo, hi, asInt, asIntOf, hnc, hby, hw0, storeCells]
  · by_cases hroom : n + k ≤ cap
    · have hst := run_storeCells_at P g n e (List.replicate k z) 0 cur w hg (by simp; omega) (fun u hu => by rw [List.eq_of_mem_replicate hu]; exact h1z)
      simp only [Nat.add_zero] at hst
      refine ⟨g, cap, _, ?_, ⟨hlen, .inr ⟨g, cap, _, rfl, hbg, setRow_heap w g cur (cur.toList.take n ++ List.replicate k z ++ cur.toList.drop (n + k)).toArray e _ hg, hroom, hcm, ?_, ?_⟩⟩, ⟨rfl, rfl, rfl, by simp, fun j _ hj => setRow_other w g j _ (fun e => hj (by rw [e]))⟩, .inl rfl⟩
      · simp [Builtin.append_, run_underlying ht, run_underlying htn, sizeOf, typeInfo, zeroValue, hi, hz, asInt, asIntOf, hw, hneg, hroom, hsize, hby, h48i, h0, hzs, zeroCells_rep, Addr.add_lit, hst]
      · simp; omega
      · simp only [Nat.mul_one] at htake ⊢
        rw [htake, ← Nat.mul_one (n + k), ← hlen]
        exact List.take_left
    · have holds : ∀ j u, xs[j]? = some u → w.cell? ((⟨g, 0, none⟩ : Addr).add j) = some u := World.ownsRow.cells (base := base) (e := e) (size := 1) (n := n) (v := .slice (some ⟨g, 0, none⟩) n cap) ⟨by omega, .inr ⟨g, cap, cur, rfl, hbg, hg, hnc, hcm, by omega, htake⟩⟩ rfl
      have hns := nsc_le (n + k) cap (by omega) (by omega)
      have hr := run_append_grow_zeros (P := P) w t tn ty e i z kq kn ht htn hi hz ⟨g, 0, none⟩ n cap xs (by rw [hx, hsize, Nat.mul_one]) holds k (by omega) (by omega) (by omega) (by omega) (by rw [hby]; omega) (by rw [hby]; omega)
      have hge := grownCap_ge w (n + k) cap e
      have hcm2 : grownCap w (n + k) cap e ≤ maxLen := grownCap_le_maxLen w (n + k) cap e (by unfold maxLen; omega)
      refine ⟨_, _, _, hr, ⟨hlen, .inr ⟨w.heap.size, _, _, rfl, hbase, heap_alloc_new w.drew _, hge, hcm2, ?_, ?_⟩⟩, ⟨rfl, rfl, rfl, by simp, fun j hj _ => heap_alloc_old w.drew _ hj⟩, .inr rfl⟩
      · rw [hzs]
        simp [size_zeroCells, hx]
        omega
      · rw [hzs]
        simp only [Array.toList_append, zeroCells_rep]
        rw [← hlen]
        exact List.take_left
end Go.Proofs.Ytmaeeidaegigcaa.Hp
