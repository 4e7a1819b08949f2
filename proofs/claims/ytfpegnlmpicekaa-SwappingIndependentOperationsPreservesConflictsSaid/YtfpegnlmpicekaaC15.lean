/- The topological order in plain words; admitted transactions have one. -/
import Derived.Test.YtfpegnlmpicekaaC14
namespace Go.Proofs.Ytfpegnlmpicekaa.C
open Go Go.RowKit Hp
set_option linter.unusedVariables false

def Before (l : List Int) (u v : Int) : Prop := ∃ l1 l2, l = l1 ++ l2 ∧ u ∈ l1 ∧ v ∉ l1 ∧ v ∈ l2
theorem before_idx {l : List Int} {u v : Int} (h : Before l u v) : idx (u == ·) l < idx (v == ·) l := by
  obtain ⟨l1, l2, rfl, hu, hv, hv2⟩ := h
  have a : idx (u == ·) (l1 ++ l2) < l1.length := by
    unfold idx
    obtain ⟨i, hi⟩ : ∃ i, (l1 ++ l2).findIdx? (u == ·) = some i := by
      cases h : (l1 ++ l2).findIdx? (u == ·) with
      | none => rw [List.findIdx?_eq_none_iff] at h; have := h u (by simp [hu]); simp at this
      | some i => exact ⟨i, rfl⟩
    rw [hi]
    rw [List.findIdx?_eq_some_iff_getElem] at hi
    obtain ⟨hl, hp, hm⟩ := hi
    show (i : Int) < _
    obtain ⟨j, hj, hju⟩ := List.mem_iff_getElem.1 hu
    rcases Nat.lt_or_ge i l1.length with h | h
    · omega
    · have := hm j (by omega)
      rw [List.getElem_append_left hj, hju] at this
      simp at this
  have b : (l1.length : Int) ≤ idx (v == ·) (l1 ++ l2) := by
    unfold idx
    obtain ⟨i, hi⟩ : ∃ i, (l1 ++ l2).findIdx? (v == ·) = some i := by
      cases h : (l1 ++ l2).findIdx? (v == ·) with
      | none => rw [List.findIdx?_eq_none_iff] at h; have := h v (by simp [hv2]); simp at this
      | some i => exact ⟨i, rfl⟩
    rw [hi]
    rw [List.findIdx?_eq_some_iff_getElem] at hi
    obtain ⟨hl, hp, hm⟩ := hi
    show _ ≤ (i : Int)
    rcases Nat.lt_or_ge i l1.length with h | h
    · rw [List.getElem_append_left h] at hp
      have : v = l1[i] := by simpa using hp
      exact absurd (this ▸ List.getElem_mem h) hv
    · omega
  omega

theorem mem_eraseIdx_of {l : List Int} {i : Nat} {x : Int} (hx : x ∈ l) (hne : x ≠ l.getD i 0) : x ∈ l.eraseIdx i := by
  rw [List.mem_eraseIdx_iff_getElem?]
  obtain ⟨j, hj, rfl⟩ := List.mem_iff_getElem.1 hx
  exact ⟨j, fun e => hne (by subst e; simp [List.getD, hj]), by simp [hj]⟩
theorem mem_of_eraseIdx {l : List Int} {i : Nat} {x : Int} (hi : i < l.length) : x ∈ l ↔ x = l.getD i 0 ∨ x ∈ l.eraseIdx i := by
  constructor
  · intro h
    by_cases e : x = l.getD i 0
    · exact .inl e
    · exact .inr (mem_eraseIdx_of h e)
  · rintro (rfl | h)
    · simp [List.getD, hi]
    · exact List.mem_of_mem_eraseIdx h

theorem topo_tail (fr : List Int → Int → Bool) : ∀ (n : Nat) (rem ord res : List Int), rem.length = n → topo fr n rem ord = some res → ∃ tail, res = ord ++ tail ∧ ∀ x, x ∈ tail ↔ x ∈ rem
  | 0, rem, ord, res, hn, h => by
    have : rem = [] := List.length_eq_zero_iff.1 hn
    subst this
    simp only [topo, Option.some.injEq] at h
    exact ⟨[], by simp [h], fun x => by simp⟩
  | n + 1, rem, ord, res, hn, h => by
    rw [topo] at h
    cases hf : rem.findIdx? (fr rem) with
    | none => rw [hf] at h; cases h
    | some i =>
      rw [hf] at h
      have hil := (List.findIdx?_eq_some_iff_getElem.1 hf).1
      obtain ⟨tail, e, hm⟩ := topo_tail fr n _ _ _ (by rw [List.length_eraseIdx_of_lt hil]; omega) h
      exact ⟨rem.getD i 0 :: tail, by rw [e]; simp, fun x => by rw [List.mem_cons, hm, mem_of_eraseIdx hil]⟩
theorem notin {ord : List Int} {v x : Int} (ho : v ∉ ord) (hv : v ≠ x) : v ∉ ord ++ [x] := by simp [ho, hv]
theorem topo_len (fr : List Int → Int → Bool) : ∀ (n : Nat) (rem ord res : List Int), rem.length = n → topo fr n rem ord = some res → res.length = ord.length + n
  | 0, rem, ord, res, hn, h => by simp only [topo, Option.some.injEq] at h; rw [h]; rfl
  | n + 1, rem, ord, res, hn, h => by
    rw [topo] at h
    cases hf : rem.findIdx? (fr rem) with
    | none => rw [hf] at h; cases h
    | some i =>
      rw [hf] at h
      have hil := (List.findIdx?_eq_some_iff_getElem.1 hf).1
      have := topo_len fr n _ _ _ (by rw [List.length_eraseIdx_of_lt hil]; omega) h
      simp at this; omega
theorem topo_before (edges : List (Int × Int)) : ∀ (n : Nat) (rem ord res : List Int), rem.length = n → topo (free edges) n rem ord = some res → ∀ u v, (u, v) ∈ edges → u ∈ rem → v ∈ rem → u ≠ v → v ∉ ord → Before res u v
  | 0, rem, ord, res, hn, h, u, v, he, hu, hv, hne, ho => by
    have : rem = [] := List.length_eq_zero_iff.1 hn
    subst this
    cases hu
  | n + 1, rem, ord, res, hn, h, u, v, he, hu, hv, hne, ho => by
    rw [topo] at h
    cases hf : rem.findIdx? (free edges rem) with
    | none => rw [hf] at h; cases h
    | some i =>
      rw [hf] at h
      obtain ⟨hil, hfr, _⟩ := List.findIdx?_eq_some_iff_getElem.1 hf
      have hget : rem.getD i 0 = rem[i] := by simp [List.getD, hil]
      have hv' : v ≠ rem.getD i 0 := by
        intro e
        rw [hget] at e
        subst e
        unfold free at hfr
        have : edges.any (fun x => into rem[i] rem x) = true := List.any_eq_true.2 ⟨(u, rem[i]), he, by simp [into, hu]⟩
        rw [this] at hfr
        cases hfr
      have hv2 := mem_eraseIdx_of hv hv'
      have hlen : (rem.eraseIdx i).length = n := by rw [List.length_eraseIdx_of_lt hil]; omega
      by_cases hu' : u = rem.getD i 0
      · obtain ⟨tail, e, hm⟩ := topo_tail _ n _ _ _ hlen h
        exact ⟨ord ++ [rem.getD i 0], tail, e, by simp [hu'], notin ho hv', (hm v).2 hv2⟩
      · exact topo_before edges n _ _ _ hlen h u v he (mem_eraseIdx_of hu hu') hv2 hne (notin ho hv')
theorem exists_min (f : Int → Int) : ∀ (l : List Int), l ≠ [] → ∃ t ∈ l, ∀ s ∈ l, f t ≤ f s
  | [], h => absurd rfl h
  | [a], _ => ⟨a, by simp, fun s hs => by simp at hs; subst hs; omega⟩
  | a :: b :: l, _ => by
    obtain ⟨t, ht, hm⟩ := exists_min f (b :: l) (by simp)
    by_cases h : f a ≤ f t
    · exact ⟨a, by simp, fun s hs => by
        rcases List.mem_cons.1 hs with rfl | hs
        · omega
        · have := hm s hs; omega⟩
    · exact ⟨t, List.mem_cons_of_mem _ ht, fun s hs => by
        rcases List.mem_cons.1 hs with rfl | hs
        · omega
        · exact hm s hs⟩
theorem topo_some (edges : List (Int × Int)) (f : Int → Int) (hf : ∀ u v, (u, v) ∈ edges → f u < f v) : ∀ (n : Nat) (rem ord : List Int), rem.length = n → ∃ res, topo (free edges) n rem ord = some res
  | 0, rem, ord, hn => ⟨ord, rfl⟩
  | n + 1, rem, ord, hn => by
    rw [topo]
    cases hq : rem.findIdx? (free edges rem) with
    | some i =>
      have hil := (List.findIdx?_eq_some_iff_getElem.1 hq).1
      exact topo_some edges f hf n _ _ (by rw [List.length_eraseIdx_of_lt hil]; omega)
    | none =>
      exfalso
      rw [List.findIdx?_eq_none_iff] at hq
      obtain ⟨t, ht, hm⟩ := exists_min f rem (by intro e; simp [e] at hn)
      have h1 := hq t ht
      unfold free at h1
      have h2 : edges.any (fun x => into t rem x) = true := by simpa using h1
      obtain ⟨⟨s, t'⟩, he, hi⟩ := List.any_eq_true.1 h2
      simp only [into, Bool.and_eq_true, beq_iff_eq, List.any_eq_true] at hi
      obtain ⟨rfl, s', hs', rfl⟩ := hi
      have a := hf _ _ he
      have b := hm _ hs'
      omega

/-! ### No admitted transaction is a pivot -/
theorem adm_stable (l : List Tx) {i k : Nat} (hi : i < k) (d : Nat) : (admN l (k + d)).getD i false = (admN l k).getD i false := by
  have h := admN_past l (n := k) d
  rw [← getD_take (admN l (k + d)) false hi, h, getD_take _ _ hi]
theorem adm_final (l : List Tx) {i k : Nat} (hi : i < k) (hk : k ≤ l.length) : (admV l).getD i false = (admN l k).getD i false := by
  have := adm_stable l hi (l.length - k)
  rw [show k + (l.length - k) = l.length by omega] at this
  exact this
theorem no_pivot (l : List Tx) {a p b : Nat} (ha : a < l.length) (hp : p < l.length) (hb : b < l.length) (aa : (admV l).getD a false = true) (ap : (admV l).getD p false = true) (ab : (admV l).getD b false = true)
    (hap : a ≠ p) (hbp : b ≠ p) (h1 : anti (l.getD a tx0) (l.getD p tx0) = true) (h2 : anti (l.getD p tx0) (l.getD b tx0) = true) : False := by
  obtain ⟨m, hm, hma, hmp, hmb, hml⟩ : ∃ m, (m = a ∨ m = p ∨ m = b) ∧ a ≤ m ∧ p ≤ m ∧ b ≤ m ∧ m < l.length := by
    by_cases c1 : a ≤ p
    · by_cases c2 : p ≤ b
      · exact ⟨b, by simp, by omega, by omega, by omega, hb⟩
      · exact ⟨p, by simp, by omega, by omega, by omega, hp⟩
    · by_cases c2 : a ≤ b
      · exact ⟨b, by simp, by omega, by omega, by omega, hb⟩
      · exact ⟨a, by simp, by omega, by omega, by omega, ha⟩
  have am : (admV l).getD m false = true := by rcases hm with rfl | rfl | rfl <;> assumption
  have hL := admN_length l m
  have hset : ∀ i, i ≤ m → (admV l).getD i false = true → ((admN l m).set m true).getD i false = true := fun i hi h => by
    by_cases e : i = m
    · subst e
      rw [List.getD_eq_getElem?_getD, List.getElem?_set_self (by omega)]; rfl
    · rw [List.getD_eq_getElem?_getD, List.getElem?_set_ne (by omega), ← List.getD_eq_getElem?_getD, ← adm_final l (by omega) (by omega)]
      exact h
  have hstep := adm_final l (show m < m + 1 by omega) (show m + 1 ≤ l.length by omega)
  rw [am, admN_succ] at hstep
  unfold admStep at hstep
  rw [List.getD_eq_getElem?_getD, List.getElem?_set_self (by rw [List.length_set]; omega)] at hstep
  have h3 := hstep.symm
  simp only [Option.getD_some, Bool.and_eq_true, Bool.not_eq_true'] at h3
  have h4 := h3.2
  rw [List.any_eq_false] at h4
  have h5 := h4 p (by simp; omega)
  apply h5
  rw [Bool.and_eq_true]
  refine ⟨List.any_eq_true.2 ⟨a, by simp; omega, ?_⟩, List.any_eq_true.2 ⟨b, by simp; omega, ?_⟩⟩
  · unfold okk; rw [hset a hma aa, hset p hmp ap, h1]; simp [hap]
  · unfold okk; rw [hset b hmb ab, hset p hmp ap, h2]; simp [hbp]

def outA (l : List Tx) (i : Nat) : Prop := ∃ k, k < l.length ∧ i ≠ k ∧ (admV l).getD k false = true ∧ anti (l.getD i tx0) (l.getD k tx0) = true
open Classical in
noncomputable def rank (l : List Tx) (u : Int) : Int := if outA l u.toNat then 2 * (l.getD u.toNat tx0).start else 2 * (l.getD u.toNat tx0).commit - 1
theorem rank_lt (l : List Tx) (hv : Valid l) {i k : Nat} (hi : i < l.length) (hk : k < l.length) (h : dep l (admV l) i k = true) : rank l (i : Int) < rank l (k : Int) := by
  unfold dep at h
  simp only [Bool.and_eq_true, Bool.not_eq_true', beq_eq_false_iff_ne] at h
  obtain ⟨hne, ai, ak, hp⟩ := h
  have li := hv.live i hi
  have lk := hv.live k hk
  unfold prec at hp
  unfold rank
  simp only [Int.toNat_natCast]
  rcases Bool.or_eq_true_iff.1 hp with ha | hd
  · have oi : outA l i := ⟨k, hk, hne, ak, ha⟩
    have nk : ¬ outA l k := fun ⟨b, hb, hkb, ab, hab⟩ => no_pivot l hi hk hb ai ak ab hne (Ne.symm hkb) ha hab
    rw [if_pos oi, if_neg nk]
    unfold anti conc at ha
    simp only [Bool.and_eq_true, decide_eq_true_eq] at ha
    omega
  · have hc : (l.getD i tx0).commit ≤ (l.getD k tx0).start := by
      simp only [Bool.and_eq_true, decide_eq_true_eq] at hd; exact hd.1
    split <;> split <;> omega
theorem mem_deps {txs : List Tx} {adm : List Bool} {u v : Int} (h : (u, v) ∈ deps txs adm txs.length) : ∃ i k : Nat, u = (i : Int) ∧ v = (k : Int) ∧ i < txs.length ∧ k < txs.length ∧ dep txs adm i k = true := by
  unfold deps at h
  obtain ⟨i, hi, hr⟩ := List.mem_flatMap.1 h
  unfold row at hr
  obtain ⟨k, hk, he⟩ := List.mem_map.1 hr
  obtain ⟨hk1, hk2⟩ := List.mem_filter.1 hk
  simp only [Prod.mk.injEq] at he
  exact ⟨i, k, he.1.symm, he.2.symm, by simpa using hi, by simpa using hk1, hk2⟩
theorem mem_ids {adm : List Bool} {i m : Nat} (hi : i < m) (h : adm.getD i false = true) : (i : Int) ∈ ids adm m := by
  unfold ids
  exact List.mem_map.2 ⟨i, List.mem_filter.2 ⟨by simpa using hi, h⟩, rfl⟩
/-- The admitted transactions have a serial order, and it respects every edge. -/
theorem serial (l : List Tx) (hv : Valid l) : ∃ res, topo (free (deps l (admV l) l.length)) (ids (admV l) (admV l).length).length (ids (admV l) (admV l).length) [] = some res ∧ res.length ≤ 40 ∧
    ∀ u v, (u, v) ∈ deps l (admV l) l.length → idx (u == ·) res < idx (v == ·) res := by
  have hL : (admV l).length = l.length := by simp [admV, admN_length]
  obtain ⟨res, hr⟩ := topo_some (deps l (admV l) l.length) (rank l) (fun u v h => by
    obtain ⟨i, k, rfl, rfl, hi, hk, hd⟩ := mem_deps h
    exact rank_lt l hv hi hk hd) _ (ids (admV l) (admV l).length) [] rfl
  refine ⟨res, hr, ?_, fun u v h => ?_⟩
  · have h1 := topo_len _ _ _ _ _ rfl hr
    have h2 := ids_len (admV l) (admV l).length
    have := hv.len
    simp at h1; omega
  · obtain ⟨i, k, rfl, rfl, hi, hk, hd⟩ := mem_deps h
    have hd' := hd
    unfold dep at hd'
    simp only [Bool.and_eq_true, Bool.not_eq_true', beq_eq_false_iff_ne] at hd'
    obtain ⟨hne, ai, ak, _⟩ := hd'
    exact before_idx (topo_before _ _ _ _ _ rfl hr _ _ h (mem_ids (by omega) ai) (mem_ids (by omega) ak) (fun e => hne (by omega)) (by simp))
end Go.Proofs.Ytfpegnlmpicekaa.C
