/- A region that draws, with many ways: what it leaves, told once. -/
import Derived.Test.YtnbhdpmhgamjfaaSl
namespace Go.Proofs.Ytnbhdpmhgamjfaa.Hp
open Go Go.RowKit
set_option linter.unusedVariables false

/-- R at a normal end; nothing else comes about. -/
def OnNormal (R : Act → World → Prop) : Exit → Act → World → Prop
  | .normal, a, w => R a w
  | _, _, _ => False
theorem OnNormal.of {R : Act → World → Prop} {a : Act} {w : World} (h : R a w) : OnNormal R .normal a w := h
theorem region_split {P : Program} {c : Code} {Q : Exit → Act → World → Prop} {a : Act} {w : World} (R : Act → Act → World → Prop) (h1 : c.wp P (OnNormal (R a)) a w) (h2 : ∀ a' w', R a a' w' → Q .normal a' w') : c.wp P Q a w :=
  Code.wp_mono (fun e a' w' h => by
    cases e <;> first | exact h2 a' w' h | exact (h : False).elim) h1
theorem up_hid {w W w' : World} {r : Option Nat} (hg : W.grownBy w' r) (hu : Up w W) : Hid (Up w W) := hu
/-- A row of another element type than the one that has grown. -/
theorem own_far {W w5 : World} {b b' s s' n n' : Nat} {v v' : Value} {xs xs' : List Value} {E T : TypeId} (hv : W.ownsRow b E s v n xs) (hr : W.ownsRow b' T s' v' n' xs') (hne : E ≠ T) (hg : W.grownBy w5 v'.ownBlock) : w5.ownsRow b E s v n xs :=
  own_chg hv ((Chg.refl (fun j => v'.ownBlock = some j) W).grown hg fun k hk => .inl hk) fun k hk e => ((own_ty hv) k hk).1.ne hne ((own_ty hr) k e).1
theorem cells_at (w : World) (cs : Array Value) (E : TypeId) (g : Nat) (hg : w.heap.size = g) : ∀ (j : Nat) u, cs.toList[j]? = some u → (w.alloc (.cells cs E)).cell? ((⟨g, 0, none⟩ : Addr).add j) = some u := by
  subst hg
  exact cells_new w cs E
theorem fx_mono {F : Nat → Prop} {w wr w3 : World} {k : Nat} (hs : wr.heap.size ≤ w3.heap.size) (h : Fx F w wr k) : Fx F w w3 k := by
  rcases h with h | h
  · exact .inl h
  · exact .inr ⟨h.1, by omega⟩
theorem fx_ltp {F : Nat → Prop} {w w3 : World} {k : Nat} (hl : ∀ k, F k → k < w.heap.size) (hs : w.heap.size ≤ w3.heap.size) (h : Fx F w w3 k) : k < w3.heap.size := by
  rcases h with h | h
  · have := hl k h; omega
  · exact h.2
theorem idx_cases {α : Type} (p : α → Bool) (l : List α) : (idx p l = -1 ∧ ∀ j (h : j < l.length), p l[j] = false) ∨ ∃ i : Nat, ∃ h : i < l.length, idx p l = (i : Int) ∧ p l[i] = true ∧ ∀ j (h : j < l.length), j < i → p l[j] = false := by
  unfold idx
  cases hf : l.findIdx? p with
  | none =>
    rw [List.findIdx?_eq_none_iff] at hf
    exact .inl ⟨rfl, fun j h => by simpa using hf _ (List.getElem_mem h)⟩
  | some i =>
    rw [List.findIdx?_eq_some_iff_getElem] at hf
    obtain ⟨h1, h2, h3⟩ := hf
    exact .inr ⟨i, h1, rfl, h2, fun j h hj => by simpa using h3 j hj⟩
end Go.Proofs.Ytnbhdpmhgamjfaa.Hp
