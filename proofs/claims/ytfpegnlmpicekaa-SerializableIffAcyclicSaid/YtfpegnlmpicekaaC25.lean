/- Serial histories: the plain laws. -/
import Derived.Test.YtfpegnlmpicekaaC24
namespace Go.Proofs.Ytfpegnlmpicekaa.C
open Go Go.RowKit Hp
set_option linter.unusedVariables false

/-! ### Edges, and the order that they allow -/
theorem mem_cgr {M : Nat → Bool} {u v : Int} : (u, v) ∈ cgr M 20 ↔ ∃ i j : Nat, u = (i : Int) ∧ v = (j : Int) ∧ i < 20 ∧ j < 20 ∧ M (i * 20 + j) = true := by
  unfold cgr crow
  simp only [List.mem_flatMap, List.mem_range, List.mem_map, List.mem_filter, Prod.mk.injEq]
  constructor
  · rintro ⟨i, hi, j, ⟨hj, hm⟩, rfl, rfl⟩
    exact ⟨i, j, rfl, rfl, hi, hj, hm⟩
  · rintro ⟨i, j, rfl, rfl, hi, hj, hm⟩
    exact ⟨i, hi, j, ⟨hj, hm⟩, rfl, rfl⟩
theorem fm_free (M : Nat → Bool) (rem : List Int) (hr : ∀ t ∈ rem, 0 ≤ t ∧ t < 20) (t : Int) (ht : 0 ≤ t ∧ t < 20) : fm M rem t = free (cgr M 20) rem t := by
  unfold fm free
  congr 1
  rw [Bool.eq_iff_iff, List.any_eq_true, List.any_eq_true]
  constructor
  · rintro ⟨s, hs, hm⟩
    have := hr s hs
    refine ⟨(s, t), mem_cgr.2 ⟨s.toNat, t.toNat, by omega, by omega, by omega, by omega, hm⟩, ?_⟩
    simp [into, hs]
  · rintro ⟨⟨u, v⟩, hm, hi⟩
    obtain ⟨i, j, rfl, rfl, hi20, hj20, hmm⟩ := mem_cgr.1 hm
    unfold into at hi
    simp only [Bool.and_eq_true, beq_iff_eq, List.any_eq_true] at hi
    obtain ⟨rfl, s, hs, rfl⟩ := hi
    exact ⟨_, hs, by simpa [mt] using hmm⟩
theorem findIdx_congr {α : Type} {p q : α → Bool} {l : List α} (h : ∀ x ∈ l, p x = q x) : l.findIdx? p = l.findIdx? q := by
  induction l with
  | nil => rfl
  | cons a l ih =>
    rw [List.findIdx?_cons, List.findIdx?_cons, h a (by simp), ih (fun x hx => h x (by simp [hx]))]
theorem topo_free (M : Nat → Bool) : ∀ (n : Nat) (rem ord : List Int), (∀ t ∈ rem, 0 ≤ t ∧ t < 20) → topo (fm M) n rem ord = topo (free (cgr M 20)) n rem ord
  | 0, _, _, _ => rfl
  | n + 1, rem, ord, hr => by
    unfold topo
    rw [findIdx_congr (fun x hx => fm_free M rem hr x (hr x hx))]
    cases h : List.findIdx? (free (cgr M 20) rem) rem with
    | none => rfl
    | some i => exact topo_free M n _ _ (fun t ht => hr t (List.eraseIdx_subset ht))
theorem order_some (l : List Hop) (f : Int → Int) (hf : ∀ u v, (u, v) ∈ cgr (cfN l l.length) 20 → f u < f v) : ∃ res, orderOf l = some res := by
  unfold orderOf
  rw [topo_free _ _ _ _ (tids_range l)]
  exact topo_some _ f hf _ _ _ rfl

/-! ### Serial histories -/
def serl (l : List Hop) (ord : List Int) : List Hop := ord.flatMap fun t => l.filter (has t)
theorem mem_serl {l : List Hop} {ord : List Int} {x : Hop} : x ∈ serl l ord ↔ x ∈ l ∧ (x.tx : Int) ∈ ord := by
  unfold serl has
  simp only [List.mem_flatMap, List.mem_filter, beq_iff_eq]
  constructor
  · rintro ⟨t, ht, hx, rfl⟩; exact ⟨hx, ht⟩
  · rintro ⟨hx, ht⟩; exact ⟨_, ht, hx, rfl⟩
theorem serl_pair (l : List Hop) {ord : List Int} (hnd : ord.Nodup) : (serl l ord).Pairwise fun a b => ord.idxOf (a.tx : Int) ≤ ord.idxOf (b.tx : Int) := by
  unfold serl
  rw [List.pairwise_flatMap]
  refine ⟨fun t ht => ?_, ?_⟩
  · rw [List.pairwise_iff_getElem]
    intro i j hi hj hij
    have h1 := (List.mem_filter.1 (List.getElem_mem hi)).2
    have h2 := (List.mem_filter.1 (List.getElem_mem hj)).2
    have e1 := beq_iff_eq.1 h1
    have e2 := beq_iff_eq.1 h2
    rw [e1, e2]; exact Nat.le_refl _
  · rw [List.pairwise_iff_getElem]
    intro i j hi hj hij x hx y hy
    have h1 := (List.mem_filter.1 hx).2
    have h2 := (List.mem_filter.1 hy).2
    have e1 := beq_iff_eq.1 h1
    have e2 := beq_iff_eq.1 h2
    rw [e1, e2, hnd.idxOf_getElem, hnd.idxOf_getElem]; omega
theorem serl_len (l : List Hop) : ∀ (ord : List Int), ord.Nodup → (serl l ord).length = l.countP fun x => decide ((x.tx : Int) ∈ ord)
  | [], _ => by simp [serl]
  | t :: ord, h => by
    have h' := List.nodup_cons.1 h
    have ih := serl_len l ord h'.2
    have e : serl l (t :: ord) = l.filter (has t) ++ serl l ord := by simp [serl]
    rw [e, List.length_append, ih, ← List.countP_eq_length_filter]
    clear e ih
    induction l with
    | nil => rfl
    | cons a l ihl =>
      rw [List.countP_cons, List.countP_cons, List.countP_cons]
      by_cases ha : (a.tx : Int) = t
      · have h1 : (a.tx : Int) ∉ ord := by rw [ha]; exact h'.1
        simp only [has, ha, beq_self_eq_true, if_true, List.mem_cons, true_or, decide_true]
        rw [ha] at h1
        simp only [h1, decide_false, Bool.false_eq_true, if_false]
        simp only [List.mem_cons] at ihl
        omega
      · simp only [has, beq_iff_eq, ha, if_false, List.mem_cons, false_or]
        simp only [List.mem_cons] at ihl
        split <;> omega
theorem serl_len_all (l : List Hop) {ord : List Int} (hnd : ord.Nodup) (h : ∀ x ∈ l, (x.tx : Int) ∈ ord) : (serl l ord).length = l.length := by
  rw [serl_len l ord hnd, List.countP_eq_length]
  intro x hx
  simpa using h x hx
theorem serl_order (l : List Hop) {ord : List Int} (hnd : ord.Nodup) (hv : HValid (serl l ord)) : ∃ res, orderOf (serl l ord) = some res := by
  refine order_some _ (fun t => (ord.idxOf t : Int)) fun u v huv => ?_
  obtain ⟨i, j, rfl, rfl, hi, hj, hm⟩ := mem_cgr.1 huv
  obtain ⟨a, b, hab, hb, hh⟩ := (cfN_iff _ _ _).1 hm
  unfold hitc at hh
  simp only [Bool.and_eq_true, decide_eq_true_eq] at hh
  have ha : a < (serl l ord).length := by omega
  have va := hv.tx a ha
  have vb := hv.tx b hb
  have hp := (List.pairwise_iff_getElem.1 (serl_pair l hnd)) a b ha hb hab
  have ma := (mem_serl.1 (List.getElem_mem ha)).2
  have mb := (mem_serl.1 (List.getElem_mem hb)).2
  rw [← hgetD _ ha] at hp ma
  rw [← hgetD _ hb] at hp mb
  obtain ⟨hc, he⟩ := hh
  generalize (serl l ord).getD a h0 = x at *
  generalize (serl l ord).getD b h0 = y at *
  have e1 : i = x.tx := by omega
  have e2 : j = y.tx := by omega
  subst e1; subst e2
  have hne : (x.tx : Int) ≠ (y.tx : Int) := by
    unfold confl at hc
    simp only [Bool.and_eq_true, Bool.not_eq_true', beq_eq_false_iff_ne] at hc
    have := hc.1
    omega
  have hlt : ord.idxOf (x.tx : Int) ≠ ord.idxOf (y.tx : Int) := fun h => by
    have h1 := List.getElem_idxOf (List.idxOf_lt_length_iff.2 ma)
    have h2 := List.getElem_idxOf (List.idxOf_lt_length_iff.2 mb)
    simp only [h] at h1
    exact hne (h1.symm.trans h2)
  show ((ord.idxOf (x.tx : Int) : Nat) : Int) < _
  omega
end Go.Proofs.Ytfpegnlmpicekaa.C
