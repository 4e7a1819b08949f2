/- Interleavings: every schedule is in one class: the plain part. -/
import Derived.Test.YthcldanmppkkjaaIno
import Derived.Test.YthcldanmppkkjaaInm
namespace Go.Proofs.Ythcldanmppkkjaa.In
open Go Go.RowKit Hp
set_option linter.unusedVariables false

theorem len3 : ∀ (s : List Hop), (∀ x ∈ s, x.tx < 3) → s.length = (s.filter fun x => decide (x.tx = 0)).length + (s.filter fun x => decide (x.tx = 1)).length + (s.filter fun x => decide (x.tx = 2)).length
  | [], _ => rfl
  | x :: s, h => by
    have ih := len3 s fun y hy => h y (List.mem_cons_of_mem _ hy)
    have hx := h x (List.mem_cons_self ..)
    have h3 : x.tx = 0 ∨ x.tx = 1 ∨ x.tx = 2 := by omega
    rcases h3 with e | e | e <;> simp [e, ih] <;> omega
theorem flat3 {L : List (List Hop)} (h : L.length = 3) : L.flatten.length = (L.getD 0 []).length + (L.getD 1 []).length + (L.getD 2 []).length := by
  match L, h with
  | [a, b, c], _ => simp; omega
/-- A schedule that has been begun: of transaction t the first ns t operations stand in it. -/
structure Pre (L : List (List Hop)) (ns : List Nat) (s : List Hop) : Prop where
  nl : ns.length = 3
  le : ∀ t, t < 3 → ns.getD t 0 ≤ (L.getD t []).length
  lt : ∀ x ∈ s, x.tx < 3
  fil : ∀ t, t < 3 → (s.filter fun x => decide (x.tx = t)) = (L.getD t []).take (ns.getD t 0)
theorem Pre.nil (L : List (List Hop)) : Pre L [0, 0, 0] [] :=
  ⟨rfl, fun t ht => by
    have : ([0, 0, 0] : List Nat).getD t 0 = 0 := by
      match t, ht with
      | 0, _ => rfl
      | 1, _ => rfl
      | 2, _ => rfl
    omega, fun x h => (by cases h), fun t ht => by
    have : ([0, 0, 0] : List Nat).getD t 0 = 0 := by
      match t, ht with
      | 0, _ => rfl
      | 1, _ => rfl
      | 2, _ => rfl
    rw [this]; rfl⟩
theorem Pre.len {L : List (List Hop)} {ns : List Nat} {s : List Hop} (h : Pre L ns s) : s.length = ns.getD 0 0 + ns.getD 1 0 + ns.getD 2 0 := by
  have h0 := h.le 0 (by omega)
  have h1 := h.le 1 (by omega)
  have h2 := h.le 2 (by omega)
  rw [len3 s h.lt, h.fil 0 (by omega), h.fil 1 (by omega), h.fil 2 (by omega), List.length_take, List.length_take, List.length_take]
  omega
theorem Pre.push {L : List (List Hop)} {ns : List Nat} {s : List Hop} (h : Pre L ns s) (ho : Own Hop.tx L) (h3 : L.length = 3) {t : Nat} (ht : t < 3) (hn : ns.getD t 0 < (L.getD t []).length) : Pre L (ns.set t (ns.getD t 0 + 1)) (s ++ [(L.getD t []).getD (ns.getD t 0) h0]) := by
  have htx : ((L.getD t []).getD (ns.getD t 0) h0).tx = t := ho t (by omega) _ (by simp only [List.getD_eq_getElem?_getD] at hn ⊢; rw [List.getElem?_eq_getElem hn]; exact List.getElem_mem hn)
  have hg : ∀ u, u < 3 → (ns.set t (ns.getD t 0 + 1)).getD u 0 = if t = u then ns.getD t 0 + 1 else ns.getD u 0 := fun u hu => by
    have hl := h.nl
    by_cases e : t = u
    · subst e
      rw [if_pos rfl]
      simp [List.getD, show t < ns.length by omega]
    · rw [if_neg e]
      simp [List.getD, List.getElem?_set_ne e]
  refine ⟨by simpa using h.nl, fun u hu => ?_, fun x hx => ?_, fun u hu => ?_⟩
  · rw [hg u hu]
    split
    · rename_i e; subst e; omega
    · exact h.le u hu
  · rcases List.mem_append.1 hx with e | e
    · exact h.lt x e
    · rw [List.mem_singleton.1 e, htx]; exact ht
  · rw [hg u hu, List.filter_append, h.fil u hu]
    by_cases e : t = u
    · subst e
      rw [if_pos rfl, List.filter_cons_of_pos (by simpa using htx), List.filter_nil, List.take_add_one, List.getElem?_eq_getElem hn]
      simp [List.getD_eq_getElem?_getD] at hn ⊢
      simp [hn]
    · rw [if_neg e, List.filter_cons_of_neg (by rw [htx]; simpa using e), List.filter_nil, List.append_nil]
theorem Pre.done {L : List (List Hop)} {ns : List Nat} {s : List Hop} (h : Pre L ns s) (h3 : L.length = 3) (hl : ¬ s.length < L.flatten.length) : Mrg Hop.tx L s := by
  have e := h.len
  have e2 := flat3 h3
  have h0 := h.le 0 (by omega)
  have h1 := h.le 1 (by omega)
  have h2 := h.le 2 (by omega)
  refine ⟨fun x hx => by rw [h3]; exact h.lt x hx, fun i hi => ?_⟩
  rw [h.fil i (by omega)]
  refine List.take_of_length_le ?_
  have hi' : i = 0 ∨ i = 1 ∨ i = 2 := by omega
  rcases hi' with rfl | rfl | rfl <;> omega
theorem Pre.some {L : List (List Hop)} {ns : List Nat} {s : List Hop} (h : Pre L ns s) (h3 : L.length = 3) (hl : s.length < L.flatten.length) {r : Nat} (hr : r < 3) (hno : ∀ d, d < 3 → ¬ ns.getD ((r + d) % 3) 0 < (L.getD ((r + d) % 3) []).length) : False := by
  have e := h.len
  have e2 := flat3 h3
  have k0 := hno 0 (by omega)
  have k1 := hno 1 (by omega)
  have k2 := hno 2 (by omega)
  have hr' : r = 0 ∨ r = 1 ∨ r = 2 := by omega
  rcases hr' with rfl | rfl | rfl <;> simp only [Nat.zero_add, Nat.reduceAdd, Nat.reduceMod] at k0 k1 k2 <;> omega
theorem Pre.lt_len {L : List (List Hop)} {ns : List Nat} {s : List Hop} (h : Pre L ns s) (h3 : L.length = 3) {T : Nat} (hT : L.flatten.length ≤ T) : s.length ≤ T := by
  have e := h.len
  have e2 := flat3 h3
  have h0 := h.le 0 (by omega)
  have h1 := h.le 1 (by omega)
  have h2 := h.le 2 (by omega)
  omega
/-- How many of the first q schedules are equivalent. -/
def eqN (S : List (List Hop)) (s : List Hop) (q : Nat) : Nat := (S.take q).countP fun u => decide (nfH u = nfH s)
theorem eqN_next (S : List (List Hop)) (s : List Hop) {q : Nat} (h : q < S.length) : eqN S s (q + 1) = eqN S s q + (if nfH S[q] = nfH s then 1 else 0) := by
  unfold eqN
  rw [List.take_add_one, List.getElem?_eq_getElem h, Option.toList_some, List.countP_append, List.countP_cons, List.countP_nil]
  simp
theorem eqN_le (S : List (List Hop)) (s : List Hop) (q : Nat) : eqN S s q ≤ S.length := by
  unfold eqN
  have h1 : (S.take q).countP (fun u => decide (nfH u = nfH s)) ≤ (S.take q).length := List.countP_le_length
  rw [List.length_take] at h1
  omega
theorem eqN_all {L : List (List Hop)} (hv : TValid L) {s : List Hop} (hs : Mrg Hop.tx L s) : eqN (sch L) s (sch L).length = 1 := by
  unfold eqN
  rw [List.take_length]
  exact sch_count hv hs
end Go.Proofs.Ythcldanmppkkjaa.In
