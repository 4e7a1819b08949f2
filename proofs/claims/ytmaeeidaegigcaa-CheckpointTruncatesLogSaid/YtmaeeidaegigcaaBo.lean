/- Slices of booleans, and slices of them, that came in. -/
import Derived.Test.YtmaeeidaegigcaaHp
import Derived.Deep.Slices
namespace Go.Proofs.Ytmaeeidaegigcaa.Hp
open Go Go.RowKit Go.WideShapes
set_option linter.unusedVariables false

theorem cell_lit {w : World} {x : Addr} {i : Nat} {v : Value} (h : w.cell? (x.add i) = some v) (h0 : ∃ u, w.cell? (x.add 0) = some u) : ∃ b off, x = ⟨b, off, none⟩ ∧ At w b (off + i) v := by
  obtain ⟨b, off, spot⟩ := x
  obtain ⟨u, h0⟩ := h0
  have hspot : spot = none := by simpa [Addr.add] using World.cell?_spot h0
  subst hspot
  have hc' : w.cell? ⟨b, off + i, none⟩ = some v := by
    by_cases e : i = 0
    · subst e; simpa [Addr.add] using h
    · simpa [Addr.add, e] using h
  refine ⟨b, off, rfl, ?_, hc'⟩
  unfold World.cell? at hc'
  rcases Nat.lt_or_ge b w.heap.size with h | h
  · exact h
  · simp [Array.getElem?_eq_none h] at hc'
section
variable {H : Type} {enc : TypeId × Value → H} {P : Program} {w : World} {base : Nat} {held : Bool}
theorem bools_in {t e : TypeId} {fuel : Nat} {cs : List Value} {x : DataW H × List MemPlace} (ht : P.underlying t = some (.slice e)) (he : P.underlying e = some .bool) (hc : P.cellsOf e = 1)
    (h : DataW.trod enc P w base (fun _ => true) held fuel t cs = some x) : ∃ a len cap bs, cs = [.slice a len cap] ∧ bs.length = len ∧ Bools w (.slice a len cap) bs := by
  rcases Deep.open_slice1 ht hc h with ⟨rfl, _⟩ | ⟨a, len, cap, m, n, V, D, Pl, rfl, _, hl, hm, hmm, _, hx⟩
  · exact ⟨none, 0, 0, [], rfl, rfl, none, 0, rfl, Nat.le_refl _, by omega, fun _ => rfl, fun i hi => absurd hi (Nat.not_lt_zero _)⟩
  · simp only [if_true] at hmm
    have hV : ∀ i, i < len → ∃ b : Bool, w.cell? (a.add i) = some (.bool b) := fun i hi => by
      obtain ⟨h1, h2⟩ := hx i (by omega)
      obtain ⟨b, hb, _⟩ := DataW.trod_bool he h2
      simp only [List.cons.injEq, and_true] at hb
      exact ⟨b, by rw [h1, hb]⟩
    obtain ⟨f, hf⟩ : ∃ f : Nat → Bool, ∀ i, i < len → w.cell? (a.add i) = some (.bool (f i)) := by
      classical
      refine ⟨fun i => if hi : i < len then (hV i hi).choose else false, fun i hi => ?_⟩
      simp only [hi, dif_pos]
      exact (hV i hi).choose_spec
    refine ⟨some a, len, cap, (List.range len).map f, rfl, by simp, some a, cap, by simp, by simpa using hl, by unfold maxLen at hm; exact hm, fun e => (by cases e), fun i hi => ?_⟩
    have hi2 : i < len := by simpa using hi
    obtain ⟨b, off, rfl, hat⟩ := cell_lit (hf i hi2) ⟨_, hf 0 (by omega)⟩
    refine ⟨b, off, rfl, ?_⟩
    rw [Nat.mul_one]
    have : ((List.range len).map f)[i] = f i := by simp
    rw [this]
    exact hat
/-- A row of rows of booleans. -/
def Bools2 (w : World) (a : Option Addr) (len : Nat) : Prop := ∀ i, i < len → ∃ b off x bs, a = some ⟨b, off, none⟩ ∧ At w b (off + i) x ∧ Bools w x bs
theorem bools2_in {t e q : TypeId} {fuel : Nat} {cs : List Value} {x : DataW H × List MemPlace} (ht : P.underlying t = some (.slice e)) (he : P.underlying e = some (.slice q)) (hq : P.underlying q = some .bool) (hc : P.cellsOf e = 1) (hc2 : P.cellsOf q = 1)
    (h : DataW.trod enc P w base (fun _ => true) held fuel t cs = some x) : ∃ a len cap, cs = [.slice a len cap] ∧ len ≤ cap ∧ cap ≤ 9223372036854775807 ∧ Bools2 w a len := by
  rcases Deep.open_slice1 ht hc h with ⟨rfl, _⟩ | ⟨a, len, cap, m, n, V, D, Pl, rfl, _, hl, hm, hmm, _, hx⟩
  · exact ⟨none, 0, 0, rfl, Nat.le_refl _, by omega, fun i hi => absurd hi (Nat.not_lt_zero _)⟩
  · simp only [if_true] at hmm
    refine ⟨some a, len, cap, rfl, hl, by unfold maxLen at hm; exact hm, fun i hi => ?_⟩
    obtain ⟨h1, h2⟩ := hx i (by omega)
    obtain ⟨a', l', c', bs, hcs, _, hB⟩ := bools_in he hq hc2 h2
    simp only [List.cons.injEq, and_true] at hcs
    rw [hcs] at h1
    obtain ⟨b, off, rfl, hat⟩ := cell_lit h1 ⟨_, (hx 0 (by omega)).1⟩
    exact ⟨b, off, _, bs, rfl, hat, hB⟩
end
end Go.Proofs.Ytmaeeidaegigcaa.Hp
