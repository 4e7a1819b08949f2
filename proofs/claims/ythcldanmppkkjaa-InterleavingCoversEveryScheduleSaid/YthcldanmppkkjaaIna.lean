/- Interleavings in plain words: schedules up to swaps of independent neighbours; sleep sets keep one of each class. -/
import Derived.Test.YthcldanmppkkjaaRows
namespace Go.Proofs.Ythcldanmppkkjaa.In
set_option linter.unusedVariables false

section
variable {α : Type} (tx : α → Nat) (dep : α → α → Bool)

/-- The first operation of t, and what is left without it, where nothing ahead of it depends on it. -/
def pull (t : Nat) : List α → Option (α × List α)
  | [] => none
  | x :: v => if tx x = t then some (x, v) else
    match pull t v with
    | some (y, r) => if dep x y then none else some (y, x :: r)
    | none => none
/-- One schedule becomes another by swaps of independent neighbours. -/
inductive Eqv : List α → List α → Prop
  | nil : Eqv [] []
  | cons (x : α) {u v : List α} : Eqv u v → Eqv (x :: u) (x :: v)
  | swap (a b : α) (s : List α) : dep a b = false → Eqv (a :: b :: s) (b :: a :: s)
  | trans {u v w : List α} : Eqv u v → Eqv v w → Eqv u w
theorem Eqv.refl : ∀ v : List α, Eqv dep v v
  | [] => .nil
  | x :: v => .cons x (Eqv.refl v)
theorem Eqv.symm (hs : ∀ a b, dep a b = dep b a) {u v : List α} (h : Eqv dep u v) : Eqv dep v u := by
  induction h with
  | nil => exact .nil
  | cons x _ ih => exact .cons x ih
  | swap a b s h => exact .swap b a s (by rw [hs]; exact h)
  | trans _ _ ih1 ih2 => exact .trans ih2 ih1
theorem Eqv.perm {u v : List α} (h : Eqv dep u v) : u.Perm v := by
  induction h with
  | nil => exact .nil
  | cons x _ ih => exact .cons x ih
  | swap a b s h => exact .swap b a s
  | trans _ _ ih1 ih2 => exact .trans ih1 ih2
theorem Eqv.left (p : List α) {u v : List α} (h : Eqv dep u v) : Eqv dep (p ++ u) (p ++ v) := by
  induction p with
  | nil => exact h
  | cons x p ih => exact .cons x ih
theorem Eqv.right (p : List α) {u v : List α} (h : Eqv dep u v) : Eqv dep (u ++ p) (v ++ p) := by
  induction h with
  | nil => exact Eqv.refl dep p
  | cons x _ ih => exact .cons x ih
  | swap a b s h => exact .swap a b (s ++ p) h
  | trans _ _ ih1 ih2 => exact .trans ih1 ih2
theorem Eqv.rev (hs : ∀ a b, dep a b = dep b a) {u v : List α} (h : Eqv dep u v) : Eqv dep u.reverse v.reverse := by
  induction h with
  | nil => exact .nil
  | cons x _ ih => rw [List.reverse_cons, List.reverse_cons]; exact Eqv.right dep [x] ih
  | swap a b s h =>
    rw [List.reverse_cons, List.reverse_cons, List.reverse_cons, List.reverse_cons, List.append_assoc, List.append_assoc]
    exact Eqv.left dep s.reverse (.swap b a [] (by rw [hs]; exact h))
  | trans _ _ ih1 ih2 => exact .trans ih1 ih2
variable {tx dep}
theorem pull_cons {t : Nat} {x : α} (v : List α) (h : ¬ tx x = t) : pull tx dep t (x :: v) = match pull tx dep t v with
    | some (y, r) => if dep x y then none else some (y, x :: r)
    | none => none := by rw [pull, if_neg h]
theorem pull_front {t : Nat} : ∀ {v r : List α} {y : α}, pull tx dep t v = some (y, r) → Eqv dep v (y :: r)
  | [], _, _, h => by cases h
  | x :: v, r, y, h => by
    unfold pull at h
    by_cases e : tx x = t
    · rw [if_pos e] at h
      simp only [Option.some.injEq, Prod.mk.injEq] at h
      obtain ⟨rfl, rfl⟩ := h
      exact Eqv.refl dep _
    · rw [if_neg e] at h
      cases hp : pull tx dep t v with
      | none => rw [hp] at h; cases h
      | some q =>
        obtain ⟨z, r'⟩ := q
        rw [hp] at h
        simp only at h
        by_cases hd : dep x z = true
        · rw [if_pos hd] at h; cases h
        · rw [if_neg hd] at h
          simp only [Option.some.injEq, Prod.mk.injEq] at h
          obtain ⟨rfl, rfl⟩ := h
          exact .trans (.cons x (pull_front hp)) (.swap x z r' (by simpa using hd))
theorem pull_tx {t : Nat} : ∀ {v r : List α} {y : α}, pull tx dep t v = some (y, r) → tx y = t ∧ (v.filter fun x => decide (tx x = t)) = y :: (r.filter fun x => decide (tx x = t)) ∧ (∀ t', t' ≠ t → (v.filter fun x => decide (tx x = t')) = r.filter fun x => decide (tx x = t')) ∧ v.Perm (y :: r)
  | [], _, _, h => by cases h
  | x :: v, r, y, h => by
    have hperm := (pull_front h).perm
    unfold pull at h
    by_cases e : tx x = t
    · rw [if_pos e] at h
      simp only [Option.some.injEq, Prod.mk.injEq] at h
      obtain ⟨rfl, rfl⟩ := h
      exact ⟨e, by rw [List.filter_cons_of_pos (by simpa using e)], fun t' ht => by rw [List.filter_cons_of_neg (by simp; omega)], hperm⟩
    · rw [if_neg e] at h
      cases hp : pull tx dep t v with
      | none => rw [hp] at h; cases h
      | some q =>
        obtain ⟨z, r'⟩ := q
        rw [hp] at h
        simp only at h
        by_cases hd : dep x z = true
        · rw [if_pos hd] at h; cases h
        · rw [if_neg hd] at h
          simp only [Option.some.injEq, Prod.mk.injEq] at h
          obtain ⟨rfl, rfl⟩ := h
          obtain ⟨a1, a2, a3, _⟩ := pull_tx hp
          refine ⟨a1, by rw [List.filter_cons_of_neg (by simpa using e), List.filter_cons_of_neg (by simpa using e)]; exact a2, fun t' ht => ?_, hperm⟩
          rw [List.filter_cons, List.filter_cons, a3 t' ht]
theorem pull_none {t : Nat} {v : List α} (h : (v.filter fun x => decide (tx x = t)) = []) : pull tx dep t v = none := by
  cases hp : pull tx dep t v with
  | none => rfl
  | some q => rw [(pull_tx (y := q.1) (r := q.2) hp).2.1] at h; cases h
/-- What may come first is the same in every schedule of a class. -/
theorem pull_eqv (hs : ∀ a b, dep a b = dep b a) (ht : ∀ a b, tx a = tx b → dep a b = true) (t : Nat) {u v : List α} (h : Eqv dep u v) :
    (pull tx dep t u = none ∧ pull tx dep t v = none) ∨ ∃ y r r', pull tx dep t u = some (y, r) ∧ pull tx dep t v = some (y, r') ∧ Eqv dep r r' := by
  induction h with
  | nil => exact .inl ⟨rfl, rfl⟩
  | cons x h ih =>
    unfold pull
    by_cases e : tx x = t
    · rw [if_pos e, if_pos e]; exact .inr ⟨x, _, _, rfl, rfl, h⟩
    · rw [if_neg e, if_neg e]
      rcases ih with ⟨h1, h2⟩ | ⟨y, r, r', h1, h2, h3⟩
      · rw [h1, h2]; exact .inl ⟨rfl, rfl⟩
      · rw [h1, h2]
        simp only
        by_cases hd : dep x y = true
        · rw [if_pos hd, if_pos hd]; exact .inl ⟨rfl, rfl⟩
        · rw [if_neg hd, if_neg hd]; exact .inr ⟨y, _, _, rfl, rfl, .cons x h3⟩
  | swap a b s hd =>
    have hne : tx a ≠ tx b := fun e => by rw [ht a b e] at hd; cases hd
    have hd2 : dep b a = false := by rw [hs]; exact hd
    by_cases ea : tx a = t
    · have eb : ¬ tx b = t := fun e => hne (ea.trans e.symm)
      refine .inr ⟨a, b :: s, b :: s, ?_, ?_, Eqv.refl dep _⟩
      · unfold pull; rw [if_pos ea]
      · unfold pull; rw [if_neg eb]; unfold pull; rw [if_pos ea]; simp [hd2]
    · by_cases eb : tx b = t
      · refine .inr ⟨b, a :: s, a :: s, ?_, ?_, Eqv.refl dep _⟩
        · unfold pull; rw [if_neg ea]; unfold pull; rw [if_pos eb]; simp [hd]
        · unfold pull; rw [if_pos eb]
      · have e1 : ∀ x z : α, ¬ tx x = t → ¬ tx z = t → pull tx dep t (x :: z :: s) = match pull tx dep t s with
            | some (y, r) => if dep z y = true ∨ dep x y = true then none else some (y, x :: z :: r)
            | none => none := fun x z hx hz => by
          rw [pull_cons _ hx, pull_cons _ hz]
          cases pull tx dep t s with
          | none => rfl
          | some q =>
            obtain ⟨y, r⟩ := q
            simp only
            by_cases h1 : dep z y = true
            · rw [if_pos h1, if_pos (.inl h1)]
            · rw [if_neg h1]
              simp only
              by_cases h2 : dep x y = true
              · rw [if_pos h2, if_pos (.inr h2)]
              · rw [if_neg h2, if_neg (fun h => h.elim h1 h2)]
        rw [e1 a b ea eb, e1 b a eb ea]
        cases hp : pull tx dep t s with
        | none => exact .inl ⟨rfl, rfl⟩
        | some q =>
          obtain ⟨y, r⟩ := q
          simp only
          by_cases h1 : dep b y = true ∨ dep a y = true
          · rw [if_pos h1, if_pos h1.symm]; exact .inl ⟨rfl, rfl⟩
          · rw [if_neg h1, if_neg (fun h => h1 h.symm)]; exact .inr ⟨y, _, _, rfl, rfl, .swap a b r hd⟩
  | trans _ _ ih1 ih2 =>
    rcases ih1 with ⟨a1, a2⟩ | ⟨y, r, r', a1, a2, a3⟩
    · rcases ih2 with ⟨b1, b2⟩ | ⟨y, r, r', b1, b2, b3⟩
      · exact .inl ⟨a1, b2⟩
      · rw [a2] at b1; cases b1
    · rcases ih2 with ⟨b1, b2⟩ | ⟨z, q, q', b1, b2, b3⟩
      · rw [a2] at b1; cases b1
      · rw [a2] at b1
        simp only [Option.some.injEq, Prod.mk.injEq] at b1
        obtain ⟨rfl, rfl⟩ := b1
        exact .inr ⟨y, r, q', a1, b2, .trans a3 b3⟩
/-! ### The normal form -/
variable (tx dep) in
def nfn (K : Nat) : Nat → List α → List α
  | 0, _ => []
  | n + 1, v => match (List.range K).findSome? (fun t => pull tx dep t v) with
    | some (y, r) => y :: nfn K n r
    | none => []
variable (tx dep) in
def nf (K : Nat) (v : List α) : List α := nfn tx dep K v.length v
theorem find_eqv (hs : ∀ a b, dep a b = dep b a) (ht : ∀ a b, tx a = tx b → dep a b = true) {u v : List α} (h : Eqv dep u v) : ∀ ts : List Nat,
    (ts.findSome? (fun t => pull tx dep t u) = none ∧ ts.findSome? (fun t => pull tx dep t v) = none) ∨ ∃ y r r', ts.findSome? (fun t => pull tx dep t u) = some (y, r) ∧ ts.findSome? (fun t => pull tx dep t v) = some (y, r') ∧ Eqv dep r r'
  | [] => .inl ⟨rfl, rfl⟩
  | t :: ts => by
    rw [List.findSome?_cons, List.findSome?_cons]
    rcases pull_eqv hs ht t h with ⟨h1, h2⟩ | ⟨y, r, r', h1, h2, h3⟩
    · rw [h1, h2]; exact find_eqv hs ht h ts
    · rw [h1, h2]; exact .inr ⟨y, r, r', rfl, rfl, h3⟩
theorem nfn_congr (hs : ∀ a b, dep a b = dep b a) (ht : ∀ a b, tx a = tx b → dep a b = true) (K : Nat) : ∀ (n : Nat) {u v : List α}, Eqv dep u v → nfn tx dep K n u = nfn tx dep K n v
  | 0, _, _, _ => rfl
  | n + 1, u, v, h => by
    unfold nfn
    rcases find_eqv hs ht h (List.range K) with ⟨h1, h2⟩ | ⟨y, r, r', h1, h2, h3⟩
    · rw [h1, h2]
    · rw [h1, h2]
      simp only
      rw [nfn_congr hs ht K n h3]
theorem find_some {K : Nat} {v : List α} (hv : ∀ x ∈ v, tx x < K) (hne : v ≠ []) : ∃ t y r, t < K ∧ (List.range K).findSome? (fun t => pull tx dep t v) = some (y, r) ∧ pull tx dep t v = some (y, r) ∧ ∀ t', t' < t → pull tx dep t' v = none := by
  have key : ∀ k, (∃ t y r, t < k ∧ (List.range k).findSome? (fun t => pull tx dep t v) = some (y, r) ∧ pull tx dep t v = some (y, r) ∧ ∀ t', t' < t → pull tx dep t' v = none) ∨ ((List.range k).findSome? (fun t => pull tx dep t v) = none ∧ ∀ t, t < k → pull tx dep t v = none) := by
    intro k
    induction k with
    | zero => exact .inr ⟨rfl, fun t ht => by omega⟩
    | succ k ih =>
      rw [List.range_succ, List.findSome?_append]
      rcases ih with ⟨t, y, r, h1, h2, h3, h4⟩ | ⟨h1, h2⟩
      · exact .inl ⟨t, y, r, by omega, by rw [h2]; rfl, h3, h4⟩
      · rw [h1]
        cases hp : pull tx dep k v with
        | none => exact .inr ⟨by simp [hp], fun t ht => by rcases Nat.lt_or_ge t k with h | h; exact h2 t h; rw [show t = k by omega]; exact hp⟩
        | some q => exact .inl ⟨k, q.1, q.2, by omega, by simp [hp], hp, fun t' ht => h2 t' ht⟩
  rcases key K with h | ⟨_, h2⟩
  · exact h
  · cases v with
    | nil => exact absurd rfl hne
    | cons x v =>
      have := h2 (tx x) (hv x (List.mem_cons_self ..))
      unfold pull at this
      rw [if_pos rfl] at this
      cases this
theorem nfn_eqv {K : Nat} : ∀ (n : Nat) (v : List α), (∀ x ∈ v, tx x < K) → v.length = n → Eqv dep v (nfn tx dep K n v)
  | 0, v, _, h => by
    rw [List.eq_nil_of_length_eq_zero h]; exact .nil
  | n + 1, v, hv, h => by
    obtain ⟨t, y, r, _, h2, h3, _⟩ := find_some (dep := dep) hv (fun e => by rw [e] at h; cases h)
    have hp := (pull_tx h3).2.2.2
    unfold nfn
    rw [h2]
    simp only
    refine .trans (pull_front h3) (.cons y (nfn_eqv n r (fun x hx => hv x (hp.mem_iff.2 (List.mem_cons_of_mem _ hx))) ?_))
    have := hp.length_eq
    rw [List.length_cons] at this
    omega
theorem nf_iff (hs : ∀ a b, dep a b = dep b a) (ht : ∀ a b, tx a = tx b → dep a b = true) {K : Nat} {u v : List α} (hu : ∀ x ∈ u, tx x < K) (hv : ∀ x ∈ v, tx x < K) : nf tx dep K u = nf tx dep K v ↔ Eqv dep u v := by
  constructor
  · intro h
    have h1 := nfn_eqv (dep := dep) u.length u hu rfl
    have h2 := nfn_eqv (dep := dep) v.length v hv rfl
    unfold nf at h
    rw [h] at h1
    exact h1.trans (h2.symm dep hs)
  · intro h
    unfold nf
    rw [h.perm.length_eq]
    exact nfn_congr hs ht K v.length h
/-! ### Merges -/
variable (tx) in
structure Mrg (rem : List (List α)) (v : List α) : Prop where
  lt : ∀ x ∈ v, tx x < rem.length
  fil : ∀ i, i < rem.length → (v.filter fun x => decide (tx x = i)) = rem.getD i []
variable (tx) in
/-- Each list holds operations of its own transaction. -/
def Own (rem : List (List α)) : Prop := ∀ i, i < rem.length → ∀ x ∈ rem.getD i [], tx x = i
theorem getD_set (rem : List (List α)) (i j : Nat) (r : List α) (hi : i < rem.length) : (rem.set i r).getD j [] = if j = i then r else rem.getD j [] := by
  simp only [List.getD]
  rw [List.getElem?_set]
  by_cases e : i = j
  · rw [if_pos e, if_pos hi, if_pos e.symm]; rfl
  · rw [if_neg e, if_neg (fun h => e h.symm)]
theorem Own.set {rem : List (List α)} (h : Own tx rem) {i : Nat} (hi : i < rem.length) {a : α} {r : List α} (hr : rem.getD i [] = a :: r) : Own tx (rem.set i r) := fun j hj x hx => by
  rw [List.length_set] at hj
  rw [getD_set rem i j r hi] at hx
  split at hx
  · rename_i e; subst e; exact h j hj x (by rw [hr]; exact List.mem_cons_of_mem _ hx)
  · exact h j hj x hx
theorem Mrg.pull {rem : List (List α)} {v r : List α} {y : α} {t : Nat} (h : Mrg tx rem v) (hp : pull tx dep t v = some (y, r)) : t < rem.length ∧ ∃ q, rem.getD t [] = y :: q ∧ Mrg tx (rem.set t q) r := by
  obtain ⟨a1, a2, a3, a4⟩ := pull_tx hp
  have hty : t < rem.length := by rw [← a1]; exact h.lt y (a4.mem_iff.2 (List.mem_cons_self ..))
  refine ⟨hty, _, (h.fil t hty).symm.trans a2, fun x hx => by rw [List.length_set]; exact h.lt x (a4.mem_iff.2 (List.mem_cons_of_mem _ hx)), fun j hj => ?_⟩
  rw [List.length_set] at hj
  rw [getD_set rem t j _ hty]
  split
  · rename_i e; rw [e]
  · rename_i e; rw [← a3 j e]; exact h.fil j hj
theorem Mrg.cons {rem : List (List α)} {v r : List α} {a : α} {i : Nat} (h : Mrg tx (rem.set i r) v) (hi : i < rem.length) (ha : tx a = i) (hr : rem.getD i [] = a :: r) : Mrg tx rem (a :: v) := by
  refine ⟨fun x hx => ?_, fun j hj => ?_⟩
  · rcases List.mem_cons.1 hx with rfl | hx
    · rw [ha]; exact hi
    · have := h.lt x hx; rw [List.length_set] at this; exact this
  · have := h.fil j (by rw [List.length_set]; exact hj)
    rw [getD_set rem i j r hi] at this
    by_cases e : j = i
    · subst e
      rw [if_pos rfl] at this
      rw [List.filter_cons_of_pos (by simpa using ha), this, hr]
    · rw [if_neg e] at this
      rw [List.filter_cons_of_neg (by simp; omega), this]
theorem Mrg.nil {rem : List (List α)} {v : List α} (h : Mrg tx rem v) (he : rem.all List.isEmpty = true) : v = [] := by
  cases v with
  | nil => rfl
  | cons x v =>
    have hx := h.lt x (List.mem_cons_self ..)
    have := h.fil _ hx
    rw [List.filter_cons_of_pos (by simp)] at this
    have hm : rem.getD (tx x) [] ∈ rem := by simp [List.getD, hx]
    have := List.all_eq_true.1 he _ hm
    rw [← h.fil _ hx, List.filter_cons_of_pos (by simp)] at this
    cases this
/-! ### The explorer -/
variable (dep) in
def sleepN (rem : List (List α)) (a : α) (Z : Nat → Bool) : Nat → Bool := fun k => Z k && match rem.getD k [] with
  | [] => true
  | b :: _ => !dep b a
variable (dep) in
def loopE (f : List (List α) → (Nat → Bool) → List (List α)) (rem : List (List α)) : List Nat → (Nat → Bool) → List (List α)
  | [], _ => []
  | i :: is, Z => match rem.getD i [] with
    | [] => loopE f rem is Z
    | a :: r => if Z i then loopE f rem is Z else (f (rem.set i r) (sleepN dep rem a Z)).map (a :: ·) ++ loopE f rem is (fun k => Z k || decide (k = i))
variable (dep) in
def expl : Nat → List (List α) → (Nat → Bool) → List (List α)
  | 0, _, _ => [[]]
  | n + 1, rem, Z => loopE dep (expl n) rem (List.range rem.length) Z
def tot (rem : List (List α)) : Nat := (rem.map List.length).sum
theorem tot_set {rem : List (List α)} {i : Nat} (hi : i < rem.length) {a : α} {r : List α} (hr : rem.getD i [] = a :: r) : tot (rem.set i r) + 1 = tot rem := by
  unfold tot
  induction rem generalizing i with
  | nil => simp at hi
  | cons l rem ih => cases i with
    | zero =>
      have : l = a :: r := hr
      subst this
      simp only [List.set_cons_zero, List.map_cons, List.sum_cons, List.length_cons]
      omega
    | succ i =>
      have := ih (i := i) (by simpa using hi) hr
      simp only [List.set_cons_succ, List.map_cons, List.sum_cons]
      omega
theorem tot_zero {rem : List (List α)} (h : tot rem = 0) : rem.all List.isEmpty = true := by
  unfold tot at h
  rw [List.sum_eq_zero_iff_forall_eq_nat] at h
  refine List.all_eq_true.2 fun l hl => ?_
  have := h _ (List.mem_map_of_mem hl)
  rw [List.isEmpty_iff]
  exact List.eq_nil_of_length_eq_zero this
theorem loopE_mem {f : List (List α) → (Nat → Bool) → List (List α)} {rem : List (List α)} (ho : Own tx rem) (hf : ∀ i a r Z, i < rem.length → rem.getD i [] = a :: r → ∀ u ∈ f (rem.set i r) Z, Mrg tx (rem.set i r) u) :
    ∀ (is : List Nat) (Z : Nat → Bool), (∀ i ∈ is, i < rem.length) → ∀ u ∈ loopE dep f rem is Z, Mrg tx rem u
  | [], _, _, u, hu => by cases hu
  | i :: is, Z, hi, u, hu => by
    have hi0 := hi i (List.mem_cons_self ..)
    have his := fun j hj => hi j (List.mem_cons_of_mem _ hj)
    unfold loopE at hu
    cases hr : rem.getD i [] with
    | nil => rw [hr] at hu; exact loopE_mem ho hf is Z his u hu
    | cons a r =>
      rw [hr] at hu
      simp only at hu
      by_cases hz : Z i = true
      · rw [if_pos hz] at hu; exact loopE_mem ho hf is Z his u hu
      · rw [if_neg hz] at hu
        rcases List.mem_append.1 hu with h | h
        · obtain ⟨u', hu', rfl⟩ := List.mem_map.1 h
          exact (hf i a r _ hi0 hr u' hu').cons hi0 (ho i hi0 a (by rw [hr]; exact List.mem_cons_self ..)) hr
        · exact loopE_mem ho hf is _ his u h
theorem expl_mem : ∀ (n : Nat) (rem : List (List α)) (Z : Nat → Bool), Own tx rem → tot rem = n → ∀ u ∈ expl dep n rem Z, Mrg tx rem u
  | 0, rem, Z, ho, hn, u, hu => by
    have : u = [] := by simpa [expl] using hu
    subst this
    refine ⟨fun x hx => (by cases hx), fun i hi => ?_⟩
    have := List.all_eq_true.1 (tot_zero hn) (rem.getD i []) (by simp [List.getD, hi])
    rw [List.isEmpty_iff] at this
    rw [this]; rfl
  | n + 1, rem, Z, ho, hn, u, hu => by
    refine loopE_mem ho (fun i a r Z' hi hr u hu => expl_mem n _ Z' (ho.set hi hr) (by have := tot_set hi hr; omega) u hu) (List.range rem.length) Z (fun i hi => List.mem_range.1 hi) u hu
end
section
variable {α : Type} [DecidableEq α] {tx : α → Nat} {dep : α → α → Bool}
variable (tx dep) in
/-- How many of the schedules are of v's class. -/
def cnt (K : Nat) (v : List α) (E : List (List α)) : Nat := E.countP fun u => decide (nf tx dep K u = nf tx dep K v)
variable (tx dep) in
def frst (v : List α) (t : Nat) : Prop := ∃ y r, pull tx dep t v = some (y, r)
theorem loop_cnt (hs : ∀ a b, dep a b = dep b a) (ht : ∀ a b, tx a = tx b → dep a b = true) {K : Nat} {rem : List (List α)} (hK : rem.length ≤ K) (ho : Own tx rem) {v : List α} (hv : Mrg tx rem v) {f : List (List α) → (Nat → Bool) → List (List α)}
    (hf : ∀ i a r Z, i < rem.length → rem.getD i [] = a :: r → ∀ u ∈ f (rem.set i r) Z, Mrg tx (rem.set i r) u)
    (hc : ∀ i a r Z v', i < rem.length → rem.getD i [] = a :: r → Mrg tx (rem.set i r) v' → ((∃ t, Z t = true ∧ frst tx dep v' t) → cnt tx dep K v' (f (rem.set i r) Z) = 0) ∧ ((∀ t, Z t = true → ¬ frst tx dep v' t) → cnt tx dep K v' (f (rem.set i r) Z) = 1)) :
    ∀ (is : List Nat) (Z : Nat → Bool), (∀ i ∈ is, i < rem.length) →
      ((∃ t, Z t = true ∧ frst tx dep v t) → cnt tx dep K v (loopE dep f rem is Z) = 0) ∧
      ((∀ t, Z t = true → ¬ frst tx dep v t) → ((∃ t ∈ is, frst tx dep v t) → cnt tx dep K v (loopE dep f rem is Z) = 1) ∧ ((∀ t ∈ is, ¬ frst tx dep v t) → cnt tx dep K v (loopE dep f rem is Z) = 0))
  | [], Z, _ => ⟨fun _ => rfl, fun _ => ⟨fun ⟨t, h, _⟩ => (by cases h), fun _ => rfl⟩⟩
  | i :: is, Z, hi => by
    have hi0 := hi i (List.mem_cons_self ..)
    have his := fun j hj => hi j (List.mem_cons_of_mem _ hj)
    have hvK : ∀ x ∈ v, tx x < K := fun x hx => Nat.lt_of_lt_of_le (hv.lt x hx) hK
    unfold loopE
    cases hr : rem.getD i [] with
    | nil =>
      have hnf : ¬ frst tx dep v i := fun ⟨y, r, hp⟩ => by
        rw [pull_none (by rw [hv.fil i hi0]; exact hr)] at hp; cases hp
      obtain ⟨g1, g2⟩ := loop_cnt hs ht hK ho hv hf hc is Z his
      refine ⟨g1, fun h => ⟨fun ⟨t, htm, hft⟩ => (g2 h).1 ?_, fun h' => (g2 h).2 fun t htm => h' t (List.mem_cons_of_mem _ htm)⟩⟩
      rcases List.mem_cons.1 htm with e | e
      · exact absurd hft (by rw [e]; exact hnf)
      · exact ⟨t, e, hft⟩
    | cons a r =>
      simp only
      by_cases hz : Z i = true
      · rw [if_pos hz]
        obtain ⟨g1, g2⟩ := loop_cnt hs ht hK ho hv hf hc is Z his
        refine ⟨g1, fun h => ⟨fun ⟨t, htm, hft⟩ => (g2 h).1 ?_, fun h' => (g2 h).2 fun t htm => h' t (List.mem_cons_of_mem _ htm)⟩⟩
        rcases List.mem_cons.1 htm with e | e
        · exact absurd hft (by rw [e]; exact h i hz)
        · exact ⟨t, e, hft⟩
      · rw [if_neg hz]
        have hta : tx a = i := ho i hi0 a (by rw [hr]; exact List.mem_cons_self ..)
        obtain ⟨g1, g2⟩ := loop_cnt hs ht hK ho hv hf hc is (fun k => Z k || decide (k = i)) his
        have hsum : ∀ A B : List (List α), cnt tx dep K v (A ++ B) = cnt tx dep K v A + cnt tx dep K v B := fun A B => List.countP_append
        rw [hsum]
        -- the schedules that begin with a
        have hmem := hf i a r (sleepN dep rem a Z) hi0 hr
        have huK : ∀ u ∈ f (rem.set i r) (sleepN dep rem a Z), ∀ x ∈ a :: u, tx x < K := fun u hu x hx => by
          rcases List.mem_cons.1 hx with rfl | hx
          · omega
          · have := (hmem u hu).lt x hx; rw [List.length_set] at this; omega
        have hno : ¬ frst tx dep v i → cnt tx dep K v ((f (rem.set i r) (sleepN dep rem a Z)).map (a :: ·)) = 0 := fun hnf => by
          unfold cnt
          rw [List.countP_map, List.countP_eq_zero]
          intro u hu
          simp only [Function.comp_apply, decide_eq_true_eq]
          intro e
          have he := (nf_iff hs ht (huK u hu) hvK).1 e
          rcases pull_eqv hs ht i he with ⟨h1, _⟩ | ⟨y, q, q', _, h2, _⟩
          · unfold pull at h1; rw [if_pos hta] at h1; cases h1
          · exact hnf ⟨y, q', h2⟩
        have hyes : ∀ v', pull tx dep i v = some (a, v') → cnt tx dep K v ((f (rem.set i r) (sleepN dep rem a Z)).map (a :: ·)) = cnt tx dep K v' (f (rem.set i r) (sleepN dep rem a Z)) := fun v' hp => by
          unfold cnt
          rw [List.countP_map]
          refine List.countP_congr fun u hu => ?_
          simp only [Function.comp_apply, decide_eq_true_eq]
          have hv'K : ∀ x ∈ v', tx x < K := fun x hx => hvK x ((pull_tx hp).2.2.2.mem_iff.2 (List.mem_cons_of_mem _ hx))
          rw [nf_iff hs ht (huK u hu) hvK, nf_iff hs ht (fun x hx => huK u hu x (List.mem_cons_of_mem _ hx)) hv'K]
          constructor
          · intro he
            rcases pull_eqv hs ht i he with ⟨h1, _⟩ | ⟨y, q, q', h1, h2, h3⟩
            · unfold pull at h1; rw [if_pos hta] at h1; cases h1
            · unfold pull at h1
              rw [if_pos hta] at h1
              rw [hp] at h2
              simp only [Option.some.injEq, Prod.mk.injEq] at h1 h2
              obtain ⟨rfl, rfl⟩ := h1
              obtain ⟨_, rfl⟩ := h2
              exact h3
          · intro he
            exact (Eqv.cons a he).trans ((pull_front hp).symm dep hs)
        have hfa : frst tx dep v i → ∃ v', pull tx dep i v = some (a, v') ∧ Mrg tx (rem.set i r) v' := fun ⟨y, v', hp⟩ => by
          obtain ⟨_, q, h1, h2⟩ := hv.pull hp
          rw [hr] at h1
          simp only [List.cons.injEq] at h1
          obtain ⟨rfl, rfl⟩ := h1
          exact ⟨v', hp, h2⟩
        -- what is first in v and in v'
        have hfirst : ∀ v', pull tx dep i v = some (a, v') → ∀ t, t ≠ i → ∀ b q, rem.getD t [] = b :: q → (frst tx dep v t ↔ (frst tx dep v' t ∧ dep b a = false)) := fun v' hp t hti b q hb => by
          have he := pull_front hp
          have hpt : pull tx dep t (a :: v') = match pull tx dep t v' with
              | some (y, r) => if dep a y then none else some (y, a :: r)
              | none => none := by
            rw [pull_cons _ (fun e => hti (by rw [← e]; exact hta))]
          have hb2 : ∀ y r2, pull tx dep t v' = some (y, r2) → y = b := fun y r2 hy => by
            obtain ⟨_, q2, h1, h2⟩ := hv.pull hp
            obtain ⟨_, q3, h3, _⟩ := h2.pull hy
            rw [getD_set rem i t _ hi0, if_neg hti, hb] at h3
            exact (List.cons.inj h3).1.symm
          constructor
          · rintro ⟨y, r2, hy⟩
            rcases pull_eqv hs ht t he with ⟨h1, _⟩ | ⟨z, q1, q2, h1, h2, _⟩
            · rw [h1] at hy; cases hy
            · rw [hpt] at h2
              cases hq : pull tx dep t v' with
              | none => rw [hq] at h2; cases h2
              | some w =>
                obtain ⟨y', r'⟩ := w
                rw [hq] at h2
                simp only at h2
                obtain rfl := hb2 y' r' hq
                by_cases hd : dep a y' = true
                · rw [if_pos hd] at h2; cases h2
                · exact ⟨⟨y', r', hq⟩, by rw [hs]; simpa using hd⟩
          · rintro ⟨⟨y, r2, hy⟩, hd⟩
            obtain rfl := hb2 y r2 hy
            rcases pull_eqv hs ht t he with ⟨_, h1⟩ | ⟨z, q1, q2, h1, h2, _⟩
            · rw [hpt, hy] at h1
              simp only at h1
              rw [if_neg (by rw [hs, hd]; decide)] at h1
              cases h1
            · exact ⟨z, q1, h1⟩
        refine ⟨fun ⟨t, hzt, hft⟩ => ?_, fun hB => ?_⟩
        · have hti : t ≠ i := fun e => hz (by rw [← e]; exact hzt)
          rw [g1 ⟨t, by simp [hzt], hft⟩]
          by_cases hfi : frst tx dep v i
          · obtain ⟨v', hp, hm⟩ := hfa hfi
            rw [hyes v' hp]
            obtain ⟨y, q, hy⟩ := hft
            obtain ⟨htl, q', hq', _⟩ := hv.pull hy
            obtain ⟨k1, k2⟩ := (hfirst v' hp t hti y q' hq').1 ⟨y, q, hy⟩
            exact (hc i a r _ v' hi0 hr hm).1 ⟨t, by unfold sleepN; rw [hzt, hq']; simp [k2], k1⟩
          · exact hno hfi
        · by_cases hfi : frst tx dep v i
          · obtain ⟨v', hp, hm⟩ := hfa hfi
            have h0 := g1 ⟨i, by simp, hfi⟩
            have h1 := (hc i a r (sleepN dep rem a Z) v' hi0 hr hm).2 fun t hzt hft' => by
              unfold sleepN at hzt
              simp only [Bool.and_eq_true] at hzt
              obtain ⟨z1, z2⟩ := hzt
              have hti : t ≠ i := fun e => hz (by rw [← e]; exact z1)
              obtain ⟨y, q, hy⟩ := hft'
              obtain ⟨_, q', hq', _⟩ := hm.pull hy
              rw [getD_set rem i t _ hi0, if_neg hti] at hq'
              rw [hq'] at z2
              exact hB t z1 ((hfirst v' hp t hti y q' hq').2 ⟨⟨y, q, hy⟩, by simpa using z2⟩)
            rw [hyes v' hp, h0, h1]
            exact ⟨fun _ => rfl, fun h => absurd hfi (h i (List.mem_cons_self ..))⟩
          · rw [hno hfi, Nat.zero_add]
            have hB2 : ∀ t, (Z t || decide (t = i)) = true → ¬ frst tx dep v t := fun t hzt => by
              rw [Bool.or_eq_true] at hzt
              rcases hzt with e | e
              · exact hB t e
              · rw [of_decide_eq_true e]; exact hfi
            refine ⟨fun ⟨t, htm, hft⟩ => (g2 hB2).1 ?_, fun h => (g2 hB2).2 fun t htm => h t (List.mem_cons_of_mem _ htm)⟩
            rcases List.mem_cons.1 htm with e | e
            · exact absurd hft (by rw [e]; exact hfi)
            · exact ⟨t, e, hft⟩
theorem expl_cnt (hs : ∀ a b, dep a b = dep b a) (ht : ∀ a b, tx a = tx b → dep a b = true) {K : Nat} : ∀ (n : Nat) (rem : List (List α)) (Z : Nat → Bool) (v : List α), rem.length ≤ K → Own tx rem → tot rem = n → Mrg tx rem v →
    ((∃ t, Z t = true ∧ frst tx dep v t) → cnt tx dep K v (expl dep n rem Z) = 0) ∧ ((∀ t, Z t = true → ¬ frst tx dep v t) → cnt tx dep K v (expl dep n rem Z) = 1)
  | 0, rem, Z, v, hK, ho, hn, hv => by
    have := hv.nil (tot_zero hn)
    subst this
    refine ⟨fun ⟨t, _, y, r, h⟩ => (by cases h), fun _ => ?_⟩
    unfold cnt expl
    simp
  | n + 1, rem, Z, v, hK, ho, hn, hv => by
    have hn1 : ∀ i a r, i < rem.length → rem.getD i [] = a :: r → tot (rem.set i r) = n := fun i a r hi hr => by have := tot_set hi hr; omega
    have key := loop_cnt hs ht hK ho hv (f := expl dep n) (fun i a r Z' hi hr u hu => expl_mem n _ Z' (ho.set hi hr) (hn1 i a r hi hr) u hu)
      (fun i a r Z' v' hi hr hm => expl_cnt hs ht n (rem.set i r) Z' v' (by rw [List.length_set]; exact hK) (ho.set hi hr) (hn1 i a r hi hr) hm) (List.range rem.length) Z (fun i hi => List.mem_range.1 hi)
    refine ⟨key.1, fun h => (key.2 h).1 ?_⟩
    cases v with
    | nil =>
      have : ∀ i, i < rem.length → rem.getD i [] = [] := fun i hi => (hv.fil i hi).symm
      have h0 : tot rem = 0 := by
        unfold tot
        rw [List.sum_eq_zero_iff_forall_eq_nat]
        intro k hk
        obtain ⟨l, hl, rfl⟩ := List.mem_map.1 hk
        obtain ⟨i, hi, rfl⟩ := List.getElem_of_mem hl
        have := this i hi
        simp only [List.getD, List.getElem?_eq_getElem hi, Option.getD_some] at this
        rw [this]; rfl
      omega
    | cons x v => exact ⟨tx x, List.mem_range.2 (hv.lt x (List.mem_cons_self ..)), x, v, by unfold pull; rw [if_pos rfl]⟩
/-- Just one schedule of each class. -/
theorem expl_one (hs : ∀ a b, dep a b = dep b a) (ht : ∀ a b, tx a = tx b → dep a b = true) {K : Nat} {rem : List (List α)} {v : List α} (hK : rem.length ≤ K) (ho : Own tx rem) (hv : Mrg tx rem v) : cnt tx dep K v (expl dep (tot rem) rem fun _ => false) = 1 :=
  (expl_cnt hs ht (tot rem) rem _ v hK ho rfl hv).2 fun t h => by cases h
end
end Go.Proofs.Ythcldanmppkkjaa.In
