/- Interleavings in plain words: one class where nothing conflicts; classes grow with operations. -/
import Derived.Test.YthcldanmppkkjaaIna
namespace Go.Proofs.Ythcldanmppkkjaa.In
set_option linter.unusedVariables false

section
variable {α : Type} {tx : α → Nat} {dep : α → α → Bool}
theorem Mrg.take {rem : List (List α)} {v : List α} (h : Mrg tx rem v) {t : Nat} {a : α} {q : List α} (ht : rem.getD t [] = a :: q) : t < rem.length := by
  rcases Nat.lt_or_ge t rem.length with e | e
  · exact e
  · simp [List.getD, List.getElem?_eq_none e] at ht
/-- Where operations of different transactions are independent, whatever is left of a transaction may come first. -/
theorem pull_free {t : Nat} : ∀ {v : List α}, (∀ a ∈ v, ∀ b ∈ v, tx a ≠ tx b → dep a b = false) → (v.filter fun x => decide (tx x = t)) ≠ [] → ∃ y r, pull tx dep t v = some (y, r)
  | [], _, h => absurd rfl h
  | x :: v, hi, h => by
    by_cases e : tx x = t
    · exact ⟨x, v, by rw [pull, if_pos e]⟩
    · rw [List.filter_cons_of_neg (by simpa using e)] at h
      obtain ⟨y, r, hp⟩ := pull_free (v := v) (fun a ha b hb => hi a (List.mem_cons_of_mem _ ha) b (List.mem_cons_of_mem _ hb)) h
      obtain ⟨h1, _, _, h4⟩ := pull_tx hp
      have hd : dep x y = false := hi x (List.mem_cons_self ..) y (List.mem_cons_of_mem _ (h4.mem_iff.2 (List.mem_cons_self ..))) (by rw [h1]; exact e)
      exact ⟨y, x :: r, by rw [pull_cons _ e, hp]; simp [hd]⟩
theorem nfn_free (K : Nat) : ∀ (n : Nat) (rem : List (List α)) (u v : List α), Mrg tx rem u → Mrg tx rem v → (∀ a ∈ u, ∀ b ∈ u, tx a ≠ tx b → dep a b = false) → (∀ a ∈ v, ∀ b ∈ v, tx a ≠ tx b → dep a b = false) → nfn tx dep K n u = nfn tx dep K n v
  | 0, _, _, _, _, _, _, _ => rfl
  | n + 1, rem, u, v, hu, hv, iu, iv => by
    have key : ∀ ts : List Nat, (ts.findSome? (fun t => pull tx dep t u) = none ∧ ts.findSome? (fun t => pull tx dep t v) = none) ∨ ∃ y r r' t q, ts.findSome? (fun t => pull tx dep t u) = some (y, r) ∧ ts.findSome? (fun t => pull tx dep t v) = some (y, r') ∧ Mrg tx (rem.set t q) r ∧ Mrg tx (rem.set t q) r' ∧ u.Perm (y :: r) ∧ v.Perm (y :: r') := by
      intro ts
      induction ts with
      | nil => exact .inl ⟨rfl, rfl⟩
      | cons t ts ih =>
        rw [List.findSome?_cons, List.findSome?_cons]
        cases hp : pull tx dep t u with
        | none =>
          have h0 : (u.filter fun x => decide (tx x = t)) = [] := by
            cases hf : (u.filter fun x => decide (tx x = t)) with
            | nil => rfl
            | cons a l =>
              obtain ⟨y, r, h⟩ := pull_free iu (t := t) (by rw [hf]; simp)
              rw [hp] at h; cases h
          have h1 : (v.filter fun x => decide (tx x = t)) = [] := by
            rcases Nat.lt_or_ge t rem.length with e | e
            · rw [hv.fil t e, ← hu.fil t e]; exact h0
            · rw [List.filter_eq_nil_iff]
              intro x hx
              have := hv.lt x hx
              simp; omega
          rw [pull_none h1]
          exact ih
        | some w =>
          obtain ⟨y, r⟩ := w
          obtain ⟨ht, q, hq, hm⟩ := hu.pull hp
          obtain ⟨z, r', hp'⟩ := pull_free iv (t := t) (by rw [hv.fil t ht, hq]; simp)
          obtain ⟨_, q', hq', hm'⟩ := hv.pull hp'
          rw [hq] at hq'
          simp only [List.cons.injEq] at hq'
          obtain ⟨rfl, rfl⟩ := hq'
          rw [hp']
          exact .inr ⟨y, r, r', t, q, rfl, rfl, hm, hm', (pull_tx hp).2.2.2, (pull_tx hp').2.2.2⟩
    unfold nfn
    rcases key (List.range K) with ⟨h1, h2⟩ | ⟨y, r, r', t, q, h1, h2, h3, h4, h5, h6⟩
    · rw [h1, h2]
    · rw [h1, h2]
      simp only
      rw [nfn_free K n (rem.set t q) r r' h3 h4 (fun a ha b hb => iu a (h5.mem_iff.2 (List.mem_cons_of_mem _ ha)) b (h5.mem_iff.2 (List.mem_cons_of_mem _ hb))) (fun a ha b hb => iv a (h6.mem_iff.2 (List.mem_cons_of_mem _ ha)) b (h6.mem_iff.2 (List.mem_cons_of_mem _ hb)))]
/-- The operations of a merge are those of the lists. -/
theorem Mrg.mem {rem : List (List α)} {v : List α} (h : Mrg tx rem v) {x : α} (hx : x ∈ v) : x ∈ rem.getD (tx x) [] := by
  rw [← h.fil _ (h.lt x hx)]
  exact List.mem_filter.2 ⟨hx, by simp⟩
theorem Mrg.len : ∀ {v : List α} {rem : List (List α)}, Mrg tx rem v → Own tx rem → v.length = tot rem
  | [], rem, h, ho => by
    have : ∀ i, i < rem.length → rem.getD i [] = [] := fun i hi => (h.fil i hi).symm
    unfold tot
    symm
    rw [List.length_nil, List.sum_eq_zero_iff_forall_eq_nat]
    intro k hk
    obtain ⟨l, hl, rfl⟩ := List.mem_map.1 hk
    obtain ⟨i, hi, rfl⟩ := List.getElem_of_mem hl
    have := this i hi
    simp only [List.getD, List.getElem?_eq_getElem hi, Option.getD_some] at this
    rw [this]; rfl
  | x :: v, rem, h, ho => by
    have hp : In.pull tx (fun _ _ => false) (tx x) (x :: v) = some (x, v) := by rw [In.pull, if_pos rfl]
    obtain ⟨ht, q, hq, hm⟩ := h.pull hp
    have := Mrg.len hm (ho.set ht hq)
    have := tot_set ht hq
    rw [List.length_cons]
    omega
theorem Own.lt {rem : List (List α)} {K : Nat} {v : List α} (hK : rem.length ≤ K) (hv : Mrg tx rem v) : ∀ x ∈ v, tx x < K := fun x hx => Nat.lt_of_lt_of_le (hv.lt x hx) hK
theorem Mrg.snoc {rem : List (List α)} {v : List α} (h : Mrg tx rem v) {t : Nat} (ht : t < rem.length) {a : α} (ha : tx a = t) : Mrg tx (rem.set t (rem.getD t [] ++ [a])) (v ++ [a]) := by
  refine ⟨fun x hx => ?_, fun i hi => ?_⟩
  · rw [List.length_set]
    rcases List.mem_append.1 hx with e | e
    · exact h.lt x e
    · rw [List.mem_singleton.1 e, ha]; exact ht
  · rw [List.length_set] at hi
    rw [getD_set rem t i _ ht, List.filter_append, h.fil i hi]
    by_cases e : i = t
    · subst e
      rw [if_pos rfl, List.filter_cons_of_pos (by simpa using ha)]; rfl
    · rw [if_neg e, List.filter_cons_of_neg (by simp; omega)]; simp
theorem eqv_cancel (hs : ∀ a b, dep a b = dep b a) (ht : ∀ a b, tx a = tx b → dep a b = true) {u v : List α} {a : α} (h : Eqv dep (u ++ [a]) (v ++ [a])) : Eqv dep u v := by
  have h1 := h.rev dep hs
  rw [List.reverse_append, List.reverse_append] at h1
  have hp : ∀ w : List α, pull tx dep (tx a) ([a].reverse ++ w.reverse) = some (a, w.reverse) := fun w => by
    show pull tx dep (tx a) (a :: w.reverse) = _
    rw [pull, if_pos rfl]
  rcases pull_eqv hs ht (tx a) h1 with ⟨h2, _⟩ | ⟨y, r, r', h2, h3, h4⟩
  · rw [hp] at h2; cases h2
  · rw [hp] at h2 h3
    simp only [Option.some.injEq, Prod.mk.injEq] at h2 h3
    obtain ⟨_, rfl⟩ := h2
    obtain ⟨_, rfl⟩ := h3
    have := h4.rev dep hs
    rwa [List.reverse_reverse, List.reverse_reverse] at this
theorem own_snoc {rem : List (List α)} (ho : Own tx rem) {t : Nat} (ht : t < rem.length) {a : α} (ha : tx a = t) : Own tx (rem.set t (rem.getD t [] ++ [a])) := fun i hi x hx => by
  rw [List.length_set] at hi
  rw [getD_set rem t i _ ht] at hx
  split at hx
  · rename_i e
    subst e
    rcases List.mem_append.1 hx with e | e
    · exact ho i hi x e
    · rw [List.mem_singleton.1 e]; exact ha
  · exact ho i hi x hx
/-- The serial schedule is a merge. -/
theorem mrg_flat : ∀ (rem : List (List α)), Own tx rem → Mrg tx rem rem.flatten := fun rem ho => by
  have key : ∀ (l : List (List α)) (k : Nat), (∀ i, i < l.length → ∀ x ∈ l.getD i [], tx x = k + i) → (∀ x ∈ l.flatten, k ≤ tx x ∧ tx x < k + l.length) ∧ ∀ i, i < l.length → (l.flatten.filter fun x => decide (tx x = k + i)) = l.getD i [] := by
    intro l
    induction l with
    | nil => intro k _; exact ⟨fun x hx => (by cases hx), fun i hi => (by cases hi)⟩
    | cons a l ih =>
      intro k h
      have h0 : ∀ x ∈ a, tx x = k := fun x hx => h 0 (by simp) x hx
      obtain ⟨g1, g2⟩ := ih (k + 1) fun i hi x hx => by
        have := h (i + 1) (by simpa using hi) x hx
        omega
      rw [List.flatten_cons]
      refine ⟨fun x hx => ?_, fun i hi => ?_⟩
      · rw [List.length_cons]
        rcases List.mem_append.1 hx with e | e
        · have := h0 x e; omega
        · have := g1 x e; omega
      · rw [List.filter_append]
        cases i with
        | zero =>
          have e1 : (a.filter fun x => decide (tx x = k + 0)) = a := List.filter_eq_self.2 fun x hx => by simp [h0 x hx]
          have e2 : (l.flatten.filter fun x => decide (tx x = k + 0)) = [] := List.filter_eq_nil_iff.2 fun x hx => by have := g1 x hx; simp; omega
          rw [e1, e2, List.append_nil]; rfl
        | succ i =>
          have e1 : (a.filter fun x => decide (tx x = k + (i + 1))) = [] := List.filter_eq_nil_iff.2 fun x hx => by have := h0 x hx; simp; omega
          have e2 := g2 i (by simpa using hi)
          rw [e1, List.nil_append, show k + (i + 1) = k + 1 + i by omega, e2]
          rfl
  obtain ⟨g1, g2⟩ := key rem 0 fun i hi x hx => by rw [Nat.zero_add]; exact ho i hi x hx
  exact ⟨fun x hx => by have := (g1 x hx).2; omega, fun i hi => by have := g2 i hi; rw [Nat.zero_add] at this; exact this⟩
end
section
variable {α : Type} [DecidableEq α] {tx : α → Nat} {dep : α → α → Bool}
/-- One class where operations of different transactions are independent. -/
theorem expl_free (hs : ∀ a b, dep a b = dep b a) (ht : ∀ a b, tx a = tx b → dep a b = true) {K : Nat} {rem : List (List α)} {v : List α} (hK : rem.length ≤ K) (ho : Own tx rem) (hv : Mrg tx rem v)
    (hi : ∀ i j, i < rem.length → j < rem.length → i ≠ j → ∀ a ∈ rem.getD i [], ∀ b ∈ rem.getD j [], dep a b = false) : (expl dep (tot rem) rem fun _ => false).length = 1 := by
  have key := expl_one (K := K) hs ht hK ho hv
  have hin : ∀ u, Mrg tx rem u → ∀ a ∈ u, ∀ b ∈ u, tx a ≠ tx b → dep a b = false := fun u hu a ha b hb hne => hi _ _ (hu.lt a ha) (hu.lt b hb) hne a (hu.mem ha) b (hu.mem hb)
  unfold cnt at key
  rw [List.countP_eq_length.2 fun u hu => ?_] at key
  · exact key
  · have hu2 := expl_mem (dep := dep) (tot rem) rem _ ho rfl u hu
    rw [decide_eq_true_eq]
    unfold nf
    rw [hu2.len ho, hv.len ho]
    exact nfn_free K _ rem u v hu2 hv (hin u hu2) (hin v hv)
/-! ### More operations, more classes -/
theorem nodup_le : ∀ {β : Type} [DecidableEq β] (L M : List β), L.Nodup → (∀ x ∈ L, x ∈ M) → L.length ≤ M.length
  | _, _, [], _, _, _ => Nat.zero_le _
  | β, _, a :: L, M, hn, h => by
    have ha := h a (List.mem_cons_self ..)
    have := nodup_le L (M.erase a) (List.nodup_cons.1 hn).2 fun x hx => (List.mem_erase_of_ne (fun e => (List.nodup_cons.1 hn).1 (by rw [← e]; exact hx))).2 (h x (List.mem_cons_of_mem _ hx))
    rw [List.length_erase, if_pos ha] at this
    have : 0 < M.length := List.length_pos_of_mem ha
    rw [List.length_cons]
    omega
theorem nodup_of_count {β : Type} [DecidableEq β] : ∀ (L : List β), (∀ x ∈ L, L.countP (fun y => decide (y = x)) ≤ 1) → L.Nodup
  | [], _ => List.nodup_nil
  | a :: L, h => by
    refine List.nodup_cons.2 ⟨fun ha => ?_, nodup_of_count L fun x hx => ?_⟩
    · have := h a (List.mem_cons_self ..)
      rw [List.countP_cons_of_pos (by simp)] at this
      have : 0 < L.countP fun y => decide (y = a) := List.countP_pos_iff.2 ⟨a, ha, by simp⟩
      omega
    · have := h x (List.mem_cons_of_mem _ hx)
      rw [List.countP_cons] at this
      omega
theorem expl_nodup (hs : ∀ a b, dep a b = dep b a) (ht : ∀ a b, tx a = tx b → dep a b = true) {K : Nat} {rem : List (List α)} (hK : rem.length ≤ K) (ho : Own tx rem) : ((expl dep (tot rem) rem fun _ => false).map (nf tx dep K)).Nodup := by
  refine nodup_of_count _ fun x hx => ?_
  obtain ⟨u, hu, rfl⟩ := List.mem_map.1 hx
  have key := expl_one (K := K) hs ht hK ho (expl_mem (dep := dep) (tot rem) rem _ ho rfl u hu)
  rw [List.countP_map, ← key]
  exact Nat.le_refl _
theorem expl_grow (hs : ∀ a b, dep a b = dep b a) (ht : ∀ a b, tx a = tx b → dep a b = true) {K : Nat} {rem : List (List α)} (hK : rem.length ≤ K) (ho : Own tx rem) {t : Nat} (htl : t < rem.length) {a : α} (ha : tx a = t) :
    (expl dep (tot rem) rem fun _ => false).length ≤ (expl dep (tot (rem.set t (rem.getD t [] ++ [a]))) (rem.set t (rem.getD t [] ++ [a])) fun _ => false).length := by
  obtain ⟨rem', hrem⟩ : ∃ r, r = rem.set t (rem.getD t [] ++ [a]) := ⟨_, rfl⟩
  have hl : rem'.length = rem.length := by rw [hrem, List.length_set]
  have ho' : Own tx rem' := by rw [hrem]; exact own_snoc ho htl ha
  rw [← hrem]
  obtain ⟨E, hE⟩ : ∃ E, E = expl dep (tot rem) rem fun _ => false := ⟨_, rfl⟩
  obtain ⟨E', hE'⟩ : ∃ E, E = expl dep (tot rem') rem' fun _ => false := ⟨_, rfl⟩
  rw [← hE, ← hE']
  have hm : ∀ u ∈ E, Mrg tx rem u := fun u hu => expl_mem (dep := dep) (tot rem) rem _ ho rfl u (by rw [← hE]; exact hu)
  have hm1 : ∀ u ∈ E, Mrg tx rem' (u ++ [a]) := fun u hu => by rw [hrem]; exact (hm u hu).snoc htl ha
  have hK' : rem'.length ≤ K := by rw [hl]; exact hK
  have key := nodup_le (E.map fun u => nf tx dep K (u ++ [a])) (E'.map (nf tx dep K)) ?_ ?_
  · rw [List.length_map, List.length_map] at key; exact key
  · have hn := expl_nodup (K := K) hs ht hK ho
    rw [← hE] at hn
    unfold List.Nodup at hn ⊢
    rw [List.pairwise_map] at hn ⊢
    refine hn.imp_of_mem fun {u v} hu hv hne e => hne ?_
    rw [nf_iff hs ht (Own.lt hK' (hm1 u hu)) (Own.lt hK' (hm1 v hv))] at e
    exact (nf_iff hs ht (Own.lt hK (hm u hu)) (Own.lt hK (hm v hv))).2 (eqv_cancel hs ht e)
  · intro x hx
    obtain ⟨u, hu, rfl⟩ := List.mem_map.1 hx
    have hc := expl_one (K := K) hs ht hK' ho' (hm1 u hu)
    rw [← hE'] at hc
    unfold cnt at hc
    obtain ⟨v, hv, he⟩ := List.countP_pos_iff.1 (by rw [hc]; exact Nat.one_pos)
    rw [decide_eq_true_eq] at he
    exact List.mem_map.2 ⟨v, hv, he⟩
end
end Go.Proofs.Ythcldanmppkkjaa.In
