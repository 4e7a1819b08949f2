/- Rows of integers that are handed in; Mod; Key. -/
import Derived.Test.YtnbhdpmhgamjfaaSl
namespace Go.Proofs.Ytnbhdpmhgamjfaa.Hp
open Go Go.RowKit
set_option linter.unusedVariables false
def Elems (w : World) (a : Option Addr) (len : Nat) (zs : List Int) : Prop :=
  ∀ i, i < len → ∃ b off, a = some ⟨b, off, none⟩ ∧ b < w.heap.size ∧ w.cell? ⟨b, off + i, none⟩ = some (.int .i64 (zs.getD i 0))
theorem elems_up {w w' : World} {a : Option Addr} {len : Nat} {zs : List Int} (h : Elems w a len zs) (hb : Up w w') : Elems w' a len zs := fun i hi => by
  obtain ⟨b, off, ha, hlt, hc⟩ := h i hi
  exact ⟨b, off, ha, by have := hb.size; omega, (hb.cell (p := ⟨b, off + i, none⟩) hlt).trans hc⟩
theorem elems_of {w : World} {a : Option Addr} {len cap : Nat} {zs : List Int} (h : (a = none ∧ len = 0 ∧ cap = 0 ∧ zs = []) ∨
  ∃ x, a = some x ∧ len ≤ cap ∧ cap ≤ maxLen ∧ zs.length = cap ∧ (∀ i, i < zs.length → w.cell? (x.add i) = some (.int .i64 (zs.getD i 0))) ∧ ∀ n ∈ zs, (Lit.int .i64 n).wf = true) :
    Elems w a len zs ∧ len ≤ cap ∧ cap ≤ 9223372036854775807 := by
  rcases h with ⟨rfl, rfl, rfl, rfl⟩ | ⟨x, rfl, hl, hm, hz, hcell, hwz⟩
  · exact ⟨fun i hi => by omega, by omega, by omega⟩
  · refine ⟨fun i hi => ?_, hl, by unfold maxLen at hm; exact hm⟩
    have hc := hcell i (by omega)
    obtain ⟨b, off, spot⟩ := x
    have h0 := hcell 0 (by omega)
    have hspot : spot = none := by simpa [Addr.add] using World.cell?_spot h0
    subst hspot
    have hc' : w.cell? ⟨b, off + i, none⟩ = some (.int .i64 (zs.getD i 0)) := by
      by_cases e : i = 0
      · subst e; simpa [Addr.add] using hc
      · simpa [Addr.add, e] using hc
    refine ⟨b, off, rfl, ?_, hc'⟩
    unfold World.cell? at hc'
    rcases Nat.lt_or_ge b w.heap.size with h | h
    · exact h
    · simp [Array.getElem?_eq_none h] at hc'
/-- The key of number k. -/
def keyB (k : Int) : ByteArray := one ((97 + modV k 6) % 256)
theorem keyB_size (k : Int) : (keyB k).size = 1 := rfl

end Go.Proofs.Ytnbhdpmhgamjfaa.Hp
