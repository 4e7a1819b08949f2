/- cycleFrom: reading the cycle back, in plain words. -/
import Derived.Test.YtfpegnlmpicekaaC35
namespace Go.Proofs.Ytfpegnlmpicekaa.C
open Go Go.RowKit Hp
set_option linter.unusedVariables false

theorem own_of_alloc (w : World) (v : Value) (E : TypeId) : (w.alloc (.cells #[v] E)).ownsRow w.heap.size E 1 (.slice (some ⟨w.heap.size, 0, none⟩) 1 1) 1 [v] := by
  refine ⟨rfl, .inr ⟨w.heap.size, 1, #[v], rfl, Nat.le_refl _, ?_, Nat.le_refl _, by unfold maxLen; omega, rfl, rfl⟩⟩
  exact heap_alloc_new w _

/-- A cycle: distinct transactions, two or more, each leads to the next and the last to the first. -/
structure IsCycle (M : Nat → Bool) (c : List Nat) : Prop where
  len : 2 ≤ c.length
  lt : ∀ v ∈ c, v < 20
  nd : c.Nodup
  edge : ∀ i, i < c.length → M (c.getD i 0 * 20 + c.getD ((i + 1) % c.length) 0) = true

/-- The part of a cycle that is read back: k stands behind the last, at distance left. -/
structure Back (M : Nat → Bool) (s : Nat) (f : Nat → Int) (L left : Nat) (c : List Nat) (x : Nat) : Prop where
  pos : 1 ≤ left ∧ left ≤ L
  len : c.length + left = L + 1
  hd : c.getD 0 0 = s
  last : c.getD (c.length - 1) 0 = x
  x20 : x < 20
  fx : f x = left
  far : ∀ j, 1 ≤ j → j < c.length → s < c.getD j 0 ∧ c.getD j 0 < 20 ∧ f (c.getD j 0) = (L : Int) - j
  edge : ∀ j, j + 1 < c.length → M (c.getD j 0 * 20 + c.getD (j + 1) 0) = true
theorem Back.start {M : Nat → Bool} {s : Nat} {f : Nat → Int} {L : Nat} (hs : s < 20) (hL : 1 ≤ L) (hf : f s = L) : Back M s f L L [s] s :=
  ⟨⟨hL, Nat.le_refl _⟩, by simp; omega, rfl, rfl, hs, hf, fun j h1 h2 => by simp at h2; omega, fun j h => by simp at h⟩
theorem getD_snoc_lt (c : List Nat) (b : Nat) {j : Nat} (h : j < c.length) : (c ++ [b]).getD j 0 = c.getD j 0 := by
  simp only [List.getD]; rw [List.getElem?_append_left h]
theorem getD_snoc_eq (c : List Nat) (b : Nat) : (c ++ [b]).getD c.length 0 = b := by simp [List.getD]
theorem Back.step {M : Nat → Bool} {s : Nat} {f : Nat → Int} {L left : Nat} {c : List Nat} {x b : Nat} (h : Back M s f L left c x) (hl : 2 ≤ left) (hb : s < b) (hb20 : b < 20) (hm : M (x * 20 + b) = true) (hf : f b = (left : Int) - 1) :
    Back M s f L (left - 1) (c ++ [b]) b := by
  have hlen := h.len
  have hp := h.pos
  have hc : 1 ≤ c.length := by omega
  refine ⟨by omega, by simp; omega, by rw [getD_snoc_lt c b (by omega)]; exact h.hd, by simp [List.getD], hb20, by omega, fun j h1 h2 => ?_, fun j hj => ?_⟩
  · simp at h2
    by_cases e : j = c.length
    · subst e; rw [getD_snoc_eq]; exact ⟨hb, hb20, by omega⟩
    · rw [getD_snoc_lt c b (by omega)]; exact h.far j h1 (by omega)
  · simp at hj
    by_cases e : j + 1 = c.length
    · rw [getD_snoc_lt c b (by omega), e, getD_snoc_eq, show j = c.length - 1 by omega, h.last]; exact hm
    · rw [getD_snoc_lt c b (by omega), getD_snoc_lt c b (by omega)]; exact h.edge j (by omega)
theorem Back.done {M : Nat → Bool} {s : Nat} {f : Nat → Int} {L : Nat} {c : List Nat} {x : Nat} (h : Back M s f L 1 c x) (hs : s < 20) (hL : f s = L) (hself : M (s * 20 + s) = false) (one : ∀ v, v < 20 → f v = 1 → M (v * 20 + s) = true) : IsCycle M c := by
  have hlen := h.len
  have hL2 : 2 ≤ L := by
    rcases Nat.lt_or_ge L 2 with hlt | hge
    · have := h.pos
      have := one s hs (by omega)
      rw [hself] at this; cases this
    · exact hge
  have hg : ∀ j (hj : j < c.length), c.getD j 0 = c[j] := fun j hj => by simp [List.getD, hj]
  refine ⟨by omega, fun v hv => ?_, ?_, fun i hi => ?_⟩
  · obtain ⟨j, hj, rfl⟩ := List.mem_iff_getElem.1 hv
    rw [← hg j hj]
    by_cases e : j = 0
    · subst e; rw [h.hd]; exact hs
    · exact (h.far j (by omega) hj).2.1
  · refine List.pairwise_iff_getElem.2 fun i j hi hj hij e => ?_
    rw [← hg i hi, ← hg j hj] at e
    have fj := h.far j (by omega) hj
    by_cases e0 : i = 0
    · subst e0; rw [h.hd] at e; omega
    · have fi := h.far i (by omega) hi
      rw [e] at fi
      have a1 := fi.2.2
      have a2 := fj.2.2
      omega
  · by_cases e : i + 1 < c.length
    · rw [Nat.mod_eq_of_lt e]; exact h.edge i e
    · have e1 : i + 1 = c.length := by omega
      rw [e1, Nat.mod_self, h.hd, show i = c.length - 1 by omega, h.last]
      exact one x h.x20 (by have := h.fx; omega)
end Go.Proofs.Ytfpegnlmpicekaa.C
