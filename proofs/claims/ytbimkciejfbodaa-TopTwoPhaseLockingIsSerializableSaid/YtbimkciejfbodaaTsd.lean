/- The conflict graph in plain words; a known order. Printed by gen6/top1.py. -/
import Derived.Test.YtbimkciejfbodaaTsc
import Derived.Test.YtbimkciejfbodaaSo
namespace Go.Proofs.Ytbimkciejfbodaa.In
open Go Go.RowKit Hp
set_option linter.unusedVariables false

/-- Does an edge lead to t out of one that is left? -/
def into (t : Int) (rem : List Int) (x : Int × Int) : Bool := x.2 == t && rem.any (x.1 == ·)
/-- Nothing that is left leads to t. -/
def free (edges : List (Int × Int)) (rem : List Int) (t : Int) : Bool := !(edges.any fun x => into t rem x)
theorem exists_min (f : Int → Int) : ∀ (l : List Int), l ≠ [] → ∃ t ∈ l, ∀ s ∈ l, f t ≤ f s
  | [], h => absurd rfl h
  | [a], _ => ⟨a, by simp, fun s hs => by simp at hs; subst hs; omega⟩
  | a :: b :: l, _ => by
    obtain ⟨t, ht, hm⟩ := exists_min f (b :: l) (by simp)
    by_cases h : f a ≤ f t
    · exact ⟨a, by simp, fun s hs => by
        rcases List.mem_cons.1 hs with rfl | hs
        · omega
        · have := hm s hs; omega⟩
    · exact ⟨t, List.mem_cons_of_mem _ ht, fun s hs => by
        rcases List.mem_cons.1 hs with rfl | hs
        · omega
        · exact hm s hs⟩
theorem topo_some (edges : List (Int × Int)) (f : Int → Int) (hf : ∀ u v, (u, v) ∈ edges → f u < f v) : ∀ (n : Nat) (rem ord : List Int), rem.length = n → ∃ res, topo (free edges) n rem ord = some res
  | 0, rem, ord, hn => ⟨ord, rfl⟩
  | n + 1, rem, ord, hn => by
    rw [topo]
    cases hq : rem.findIdx? (free edges rem) with
    | some i =>
      have hil := (List.findIdx?_eq_some_iff_getElem.1 hq).1
      exact topo_some edges f hf n _ _ (by rw [List.length_eraseIdx_of_lt hil]; omega)
    | none =>
      exfalso
      rw [List.findIdx?_eq_none_iff] at hq
      obtain ⟨t, ht, hm⟩ := exists_min f rem (by intro e; simp [e] at hn)
      have h1 := hq t ht
      unfold free at h1
      have h2 : edges.any (fun x => into t rem x) = true := by simpa using h1
      obtain ⟨⟨s, t'⟩, he, hi⟩ := List.any_eq_true.1 h2
      simp only [into, Bool.and_eq_true, beq_iff_eq, List.any_eq_true] at hi
      obtain ⟨rfl, s', hs', rfl⟩ := hi
      have a := hf _ _ he
      have b := hm _ hs'
      omega
/-! ### The plain law -/
theorem cfIn_iff (l : List Hop) (j m c : Nat) : cfIn l j m c = true ↔ ∃ i, i < m ∧ hitc (l.getD i h0) (l.getD j h0) c = true := by
  unfold cfIn
  rw [List.any_eq_true]
  exact ⟨fun ⟨i, hi, h⟩ => ⟨i, List.mem_range.1 hi, h⟩, fun ⟨i, hi, h⟩ => ⟨i, List.mem_range.2 hi, h⟩⟩
theorem cfN_iff (l : List Hop) (n c : Nat) : cfN l n c = true ↔ ∃ i j, i < j ∧ j < n ∧ hitc (l.getD i h0) (l.getD j h0) c = true := by
  unfold cfN
  rw [List.any_eq_true]
  constructor
  · rintro ⟨j, hj, h⟩
    obtain ⟨i, hi, h'⟩ := (cfIn_iff _ _ _ _).1 h
    exact ⟨i, j, hi, List.mem_range.1 hj, h'⟩
  · rintro ⟨i, j, hi, hj, h⟩
    exact ⟨j, List.mem_range.2 hj, (cfIn_iff _ _ _ _).2 ⟨i, hi, h⟩⟩
theorem confl_symm (a b : Hop) : confl a b = confl b a := by
  unfold confl
  have e1 : (a.tx == b.tx) = (b.tx == a.tx) := by rw [Bool.eq_iff_iff, beq_iff_eq, beq_iff_eq]; exact eq_comm
  have e2 : (a.key.toList == b.key.toList) = (b.key.toList == a.key.toList) := by rw [Bool.eq_iff_iff, beq_iff_eq, beq_iff_eq]; exact eq_comm
  rw [e1, e2, Bool.or_comm]
theorem hgetD (l : List Hop) {i : Nat} (h : i < l.length) : l.getD i h0 = l[i] := by simp [List.getD, h]
/-! ### Edges, and the order that they allow -/
theorem mem_cgr {M : Nat → Bool} {u v : Int} : (u, v) ∈ cgr M 20 ↔ ∃ i j : Nat, u = (i : Int) ∧ v = (j : Int) ∧ i < 20 ∧ j < 20 ∧ M (i * 20 + j) = true := by
  unfold cgr crow
  simp only [List.mem_flatMap, List.mem_range, List.mem_map, List.mem_filter, Prod.mk.injEq]
  constructor
  · rintro ⟨i, hi, j, ⟨hj, hm⟩, rfl, rfl⟩
    exact ⟨i, j, rfl, rfl, hi, hj, hm⟩
  · rintro ⟨i, j, rfl, rfl, hi, hj, hm⟩
    exact ⟨i, hi, j, ⟨hj, hm⟩, rfl, rfl⟩
theorem fm_free (M : Nat → Bool) (rem : List Int) (hr : ∀ t ∈ rem, 0 ≤ t ∧ t < 20) (t : Int) (ht : 0 ≤ t ∧ t < 20) : fm M rem t = free (cgr M 20) rem t := by
  unfold fm free
  congr 1
  rw [Bool.eq_iff_iff, List.any_eq_true, List.any_eq_true]
  constructor
  · rintro ⟨s, hs, hm⟩
    have := hr s hs
    refine ⟨(s, t), mem_cgr.2 ⟨s.toNat, t.toNat, by omega, by omega, by omega, by omega, hm⟩, ?_⟩
    simp [into, hs]
  · rintro ⟨⟨u, v⟩, hm, hi⟩
    obtain ⟨i, j, rfl, rfl, hi20, hj20, hmm⟩ := mem_cgr.1 hm
    unfold into at hi
    simp only [Bool.and_eq_true, beq_iff_eq, List.any_eq_true] at hi
    obtain ⟨rfl, s, hs, rfl⟩ := hi
    exact ⟨_, hs, by simpa [mt] using hmm⟩
theorem findIdx_congr {α : Type} {p q : α → Bool} {l : List α} (h : ∀ x ∈ l, p x = q x) : l.findIdx? p = l.findIdx? q := by
  induction l with
  | nil => rfl
  | cons a l ih =>
    rw [List.findIdx?_cons, List.findIdx?_cons, h a (by simp), ih (fun x hx => h x (by simp [hx]))]
theorem topo_free (M : Nat → Bool) : ∀ (n : Nat) (rem ord : List Int), (∀ t ∈ rem, 0 ≤ t ∧ t < 20) → topo (fm M) n rem ord = topo (free (cgr M 20)) n rem ord
  | 0, _, _, _ => rfl
  | n + 1, rem, ord, hr => by
    unfold topo
    rw [findIdx_congr (fun x hx => fm_free M rem hr x (hr x hx))]
    cases h : List.findIdx? (free (cgr M 20) rem) rem with
    | none => rfl
    | some i => exact topo_free M n _ _ (fun t ht => hr t (List.eraseIdx_subset ht))
theorem order_some (l : List Hop) (f : Int → Int) (hf : ∀ u v, (u, v) ∈ cgr (cfN l l.length) 20 → f u < f v) : ∃ res, orderOf l = some res := by
  unfold orderOf
  rw [topo_free _ _ _ _ (tids_range l)]
  exact topo_some _ f hf _ _ _ rfl
theorem conf_tx {a b : Hop} (h : confl a b = true) : a.tx ≠ b.tx := by
  unfold confl at h
  simp only [Bool.and_eq_true, Bool.not_eq_true', beq_eq_false_iff_ne] at h
  exact h.1
theorem cfN_edge {l : List Hop} (hv : ∀ x ∈ l, x.tx < 20) {i j : Nat} (hj : j < 20) (h : cfN l l.length (i * 20 + j) = true) : ∃ a b, a ∈ l ∧ b ∈ l ∧ a.tx = i ∧ b.tx = j ∧ a.tx ≠ b.tx := by
  obtain ⟨p, q, hpq, hq, hh⟩ := (cfN_iff _ _ _).1 h
  rw [hgetD l (by omega), hgetD l hq] at hh
  unfold hitc at hh
  simp only [Bool.and_eq_true, decide_eq_true_eq] at hh
  have ha := List.getElem_mem (l := l) (show p < l.length by omega)
  have hb := List.getElem_mem (l := l) hq
  have := hv _ hb
  exact ⟨_, _, ha, hb, by omega, by omega, conf_tx hh.1⟩
def kx : ByteArray := ⟨#[120]⟩
def hw0 : List Hop := [⟨3, 2, kx⟩, ⟨1, 1, kx⟩]
theorem orderOf_congr {l : List Hop} {M : Nat → Bool} (h : ∀ c, cfN l l.length c = M c) : orderOf l = topo (fm M) (tids l 20).length (tids l 20) [] := by
  unfold orderOf; rw [show cfN l l.length = M from funext h]
theorem order_hw0 : orderOf hw0 = some [3, 1] := by
  rw [orderOf_congr (M := fun c => decide (c = 61)) (fun c => by
    simp [hw0, cfN, cfIn, hitc, confl, List.range_succ])]
  have e : tids hw0 20 = [1, 3] := by decide
  rw [e]
  decide
theorem valid_hw0 : HValid hw0 := ⟨by decide, fun i hi => by
  match i, hi with
  | 0, _ => exact .inr rfl
  | 1, _ => exact .inl rfl, fun i hi => by
  match i, hi with
  | 0, _ => decide
  | 1, _ => decide, fun i hi => by
  match i, hi with
  | 0, _ => decide
  | 1, _ => decide⟩
theorem hgetD' (l : List Hop) {i : Nat} (h : i < l.length) : l.getD i h0 = l[i] := by simp [List.getD, h]
/-- An edge of the graph is a pair of operations, the one ahead of the other. -/
theorem cgr_pair {l : List Hop} (hv : ∀ x ∈ l, x.tx < 20) {u v : Int} (h : (u, v) ∈ cgr (cfN l l.length) 20) : ∃ i j, ∃ hi : i < l.length, ∃ hj : j < l.length, i < j ∧ confl l[i] l[j] = true ∧ u = (l[i].tx : Int) ∧ v = (l[j].tx : Int) := by
  obtain ⟨a, b, rfl, rfl, ha, hb, hm⟩ := mem_cgr.1 h
  rw [cfN_iff] at hm
  obtain ⟨p, q, hpq, hq, hh⟩ := hm
  have hp : p < l.length := Nat.lt_trans hpq hq
  unfold hitc at hh
  rw [Bool.and_eq_true, decide_eq_true_eq, hgetD' l hp, hgetD' l hq] at hh
  obtain ⟨hc, he⟩ := hh
  have h1 := hv _ (List.getElem_mem hp)
  have h2 := hv _ (List.getElem_mem hq)
  exact ⟨p, q, hp, hq, hpq, hc, by omega, by omega⟩
end Go.Proofs.Ytbimkciejfbodaa.In
