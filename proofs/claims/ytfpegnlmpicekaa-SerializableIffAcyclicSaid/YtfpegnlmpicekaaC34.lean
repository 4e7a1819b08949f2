/- SerializableIffAcyclic: where no order is, a cycle is. -/
import Derived.Test.YtfpegnlmpicekaaC28
namespace Go.Proofs.Ytfpegnlmpicekaa.C
open Go Go.RowKit Hp
set_option linter.unusedVariables false

/-- A walk of one edge or more through vertices that are not below m. -/
inductive Path (E : Nat → Nat → Prop) (m : Nat) : Nat → Nat → Prop
  | one {u v : Nat} : E u v → m ≤ u → m ≤ v → Path E m u v
  | cons {u v x : Nat} : E u v → m ≤ u → Path E m v x → Path E m u x
theorem Path.snoc {E : Nat → Nat → Prop} {m u v x : Nat} (h : Path E m u v) (e : E v x) (hx : m ≤ x) : Path E m u x := by
  induction h with
  | one h1 h2 h3 => exact .cons h1 h2 (.one e h3 hx)
  | cons h1 h2 _ ih => exact .cons h1 h2 (ih e)
theorem exists_least : ∀ (l : List Nat), l ≠ [] → ∃ m ∈ l, ∀ v ∈ l, m ≤ v
  | [a], _ => ⟨a, by simp, fun v hv => by simp at hv; omega⟩
  | a :: b :: l, _ => by
    obtain ⟨m, hm, h⟩ := exists_least (b :: l) (by simp)
    by_cases hle : a ≤ m
    · exact ⟨a, by simp, fun v hv => by
        rcases List.mem_cons.1 hv with rfl | hv
        · exact Nat.le_refl _
        · exact Nat.le_trans hle (h v hv)⟩
    · exact ⟨m, List.mem_cons_of_mem _ hm, fun v hv => by
        rcases List.mem_cons.1 hv with rfl | hv
        · omega
        · exact h v hv⟩
open Classical in
theorem exists_cycle (E : Nat → Nat → Prop) : ∀ (n : Nat) (S : List Nat), S.length ≤ n → S ≠ [] → (∀ v ∈ S, ∃ u ∈ S, E u v) → ∃ s ∈ S, Path E s s s
  | 0, S, hn, hne, _ => absurd (List.length_eq_zero_iff.1 (by omega)) hne
  | n + 1, S, hn, hne, hp => by
    obtain ⟨m, hm, hmin⟩ := exists_least S hne
    by_cases hc : Path E m m m
    · exact ⟨m, hm, hc⟩
    · let S' := S.filter fun v => decide (v ≠ m ∧ ¬ Path E m m v)
      have hmem : ∀ v, v ∈ S' ↔ v ∈ S ∧ v ≠ m ∧ ¬ Path E m m v := fun v => by simp [S', List.mem_filter]
      have hlen : S'.length < S.length := by
        refine List.length_filter_lt_length_iff_exists.2 ⟨m, hm, by simp⟩
      have hne' : S' ≠ [] := by
        obtain ⟨p, hpS, hE⟩ := hp m hm
        have : p ∈ S' := (hmem p).2 ⟨hpS, fun e => hc (by subst e; exact .one hE (Nat.le_refl _) (Nat.le_refl _)), fun h => hc (h.snoc hE (Nat.le_refl _))⟩
        intro h; rw [h] at this; cases this
      obtain ⟨s, hs, hpath⟩ := exists_cycle E n S' (by omega) hne' (fun v hv => by
        obtain ⟨h1, h2, h3⟩ := (hmem v).1 hv
        obtain ⟨u, hu, hE⟩ := hp v h1
        refine ⟨u, (hmem u).2 ⟨hu, fun e => h3 (by subst e; exact .one hE (Nat.le_refl _) (hmin v h1)), fun h => h3 (h.snoc hE (hmin v h1))⟩, hE⟩)
      exact ⟨s, ((hmem s).1 hs).1, hpath⟩

theorem topo_none (fr : List Int → Int → Bool) : ∀ (n : Nat) (rem ord : List Int), rem.length = n → topo fr n rem ord = none → ∃ S : List Int, S ≠ [] ∧ (∀ t ∈ S, t ∈ rem) ∧ ∀ t ∈ S, fr S t = false
  | 0, rem, ord, _, h => by simp [topo] at h
  | n + 1, rem, ord, hn, h => by
    rw [topo] at h
    cases hf : rem.findIdx? (fr rem) with
    | none =>
      rw [List.findIdx?_eq_none_iff] at hf
      exact ⟨rem, fun e => by rw [e] at hn; simp at hn, fun t ht => ht, fun t ht => hf t ht⟩
    | some i =>
      rw [hf] at h
      have hil := (List.findIdx?_eq_some_iff_getElem.1 hf).1
      obtain ⟨S, h1, h2, h3⟩ := topo_none fr n _ _ (by rw [List.length_eraseIdx_of_lt hil]; omega) h
      exact ⟨S, h1, fun t ht => List.mem_of_mem_eraseIdx (h2 t ht), h3⟩
/-- No serial order: some transaction lies on a cycle of ones that are not below it. -/
theorem no_order_cycle (l : List Hop) (h : orderOf l = none) : ∃ s, s < 20 ∧ Path (fun u v => u < 20 ∧ v < 20 ∧ cfN l l.length (u * 20 + v) = true) s s s := by
  obtain ⟨S, hne, hsub, hfr⟩ := topo_none _ _ _ _ rfl h
  have hrg : ∀ t ∈ S, 0 ≤ t ∧ t < 20 := fun t ht => tids_range l t (hsub t ht)
  obtain ⟨s, hs, hp⟩ := exists_cycle (fun u v => u < 20 ∧ v < 20 ∧ cfN l l.length (u * 20 + v) = true) _ (S.map Int.toNat) (Nat.le_refl _) (by simpa using hne) (fun v hv => by
    obtain ⟨t, ht, rfl⟩ := List.mem_map.1 hv
    have hf := hfr t ht
    unfold fm at hf
    have hf2 : (S.any fun s => mt (cfN l l.length) t s) = true := by simpa using hf
    obtain ⟨u, hu, hm⟩ := List.any_eq_true.1 hf2
    have h1 := hrg t ht
    have h2 := hrg u hu
    exact ⟨u.toNat, List.mem_map.2 ⟨u, hu, rfl⟩, by omega, by omega, hm⟩)
  obtain ⟨t, ht, rfl⟩ := List.mem_map.1 hs
  have := hrg t ht
  exact ⟨t.toNat, by omega, hp⟩
end Go.Proofs.Ytfpegnlmpicekaa.C
