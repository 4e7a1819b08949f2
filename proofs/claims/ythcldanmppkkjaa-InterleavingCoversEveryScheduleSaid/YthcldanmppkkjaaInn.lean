/- Interleavings: the conflict graph of a class; serial schedules have an order. Printed by gen5/in6.py. -/
import Derived.Test.YthcldanmppkkjaaInl
namespace Go.Proofs.Ythcldanmppkkjaa.In
open Go Go.RowKit Hp
set_option linter.unusedVariables false

/-- Does an edge lead to t out of one that is left? -/
def into (t : Int) (rem : List Int) (x : Int × Int) : Bool := x.2 == t && rem.any (x.1 == ·)
/-- Nothing that is left leads to t. -/
def free (edges : List (Int × Int)) (rem : List Int) (t : Int) : Bool := !(edges.any fun x => into t rem x)
theorem exists_min (f : Int → Int) : ∀ (l : List Int), l ≠ [] → ∃ t ∈ l, ∀ s ∈ l, f t ≤ f s
  | [], h => absurd rfl h
  | [a], _ => ⟨a, by simp, fun s hs => by simp at hs; subst hs; omega⟩
  | a :: b :: l, _ => by
    obtain ⟨t, ht, hm⟩ := exists_min f (b :: l) (by simp)
    by_cases h : f a ≤ f t
    · exact ⟨a, by simp, fun s hs => by
        rcases List.mem_cons.1 hs with rfl | hs
        · omega
        · have := hm s hs; omega⟩
    · exact ⟨t, List.mem_cons_of_mem _ ht, fun s hs => by
        rcases List.mem_cons.1 hs with rfl | hs
        · omega
        · exact hm s hs⟩
theorem topo_some (edges : List (Int × Int)) (f : Int → Int) (hf : ∀ u v, (u, v) ∈ edges → f u < f v) : ∀ (n : Nat) (rem ord : List Int), rem.length = n → ∃ res, topo (free edges) n rem ord = some res
  | 0, rem, ord, hn => ⟨ord, rfl⟩
  | n + 1, rem, ord, hn => by
    rw [topo]
    cases hq : rem.findIdx? (free edges rem) with
    | some i =>
      have hil := (List.findIdx?_eq_some_iff_getElem.1 hq).1
      exact topo_some edges f hf n _ _ (by rw [List.length_eraseIdx_of_lt hil]; omega)
    | none =>
      exfalso
      rw [List.findIdx?_eq_none_iff] at hq
      obtain ⟨t, ht, hm⟩ := exists_min f rem (by intro e; simp [e] at hn)
      have h1 := hq t ht
      unfold free at h1
      have h2 : edges.any (fun x => into t rem x) = true := by simpa using h1
      obtain ⟨⟨s, t'⟩, he, hi⟩ := List.any_eq_true.1 h2
      simp only [into, Bool.and_eq_true, beq_iff_eq, List.any_eq_true] at hi
      obtain ⟨rfl, s', hs', rfl⟩ := hi
      have a := hf _ _ he
      have b := hm _ hs'
      omega
/-! ### The plain law -/
theorem cfIn_iff (l : List Hop) (j m c : Nat) : cfIn l j m c = true ↔ ∃ i, i < m ∧ hitc (l.getD i h0) (l.getD j h0) c = true := by
  unfold cfIn
  rw [List.any_eq_true]
  exact ⟨fun ⟨i, hi, h⟩ => ⟨i, List.mem_range.1 hi, h⟩, fun ⟨i, hi, h⟩ => ⟨i, List.mem_range.2 hi, h⟩⟩
theorem cfN_iff (l : List Hop) (n c : Nat) : cfN l n c = true ↔ ∃ i j, i < j ∧ j < n ∧ hitc (l.getD i h0) (l.getD j h0) c = true := by
  unfold cfN
  rw [List.any_eq_true]
  constructor
  · rintro ⟨j, hj, h⟩
    obtain ⟨i, hi, h'⟩ := (cfIn_iff _ _ _ _).1 h
    exact ⟨i, j, hi, List.mem_range.1 hj, h'⟩
  · rintro ⟨i, j, hi, hj, h⟩
    exact ⟨j, List.mem_range.2 hj, (cfIn_iff _ _ _ _).2 ⟨i, hi, h⟩⟩
theorem confl_symm (a b : Hop) : confl a b = confl b a := by
  unfold confl
  have e1 : (a.tx == b.tx) = (b.tx == a.tx) := by rw [Bool.eq_iff_iff, beq_iff_eq, beq_iff_eq]; exact eq_comm
  have e2 : (a.key.toList == b.key.toList) = (b.key.toList == a.key.toList) := by rw [Bool.eq_iff_iff, beq_iff_eq, beq_iff_eq]; exact eq_comm
  rw [e1, e2, Bool.or_comm]
theorem hgetD (l : List Hop) {i : Nat} (h : i < l.length) : l.getD i h0 = l[i] := by simp [List.getD, h]
/-! ### Edges, and the order that they allow -/
theorem mem_cgr {M : Nat → Bool} {u v : Int} : (u, v) ∈ cgr M 20 ↔ ∃ i j : Nat, u = (i : Int) ∧ v = (j : Int) ∧ i < 20 ∧ j < 20 ∧ M (i * 20 + j) = true := by
  unfold cgr crow
  simp only [List.mem_flatMap, List.mem_range, List.mem_map, List.mem_filter, Prod.mk.injEq]
  constructor
  · rintro ⟨i, hi, j, ⟨hj, hm⟩, rfl, rfl⟩
    exact ⟨i, j, rfl, rfl, hi, hj, hm⟩
  · rintro ⟨i, j, rfl, rfl, hi, hj, hm⟩
    exact ⟨i, hi, j, ⟨hj, hm⟩, rfl, rfl⟩
theorem fm_free (M : Nat → Bool) (rem : List Int) (hr : ∀ t ∈ rem, 0 ≤ t ∧ t < 20) (t : Int) (ht : 0 ≤ t ∧ t < 20) : fm M rem t = free (cgr M 20) rem t := by
  unfold fm free
  congr 1
  rw [Bool.eq_iff_iff, List.any_eq_true, List.any_eq_true]
  constructor
  · rintro ⟨s, hs, hm⟩
    have := hr s hs
    refine ⟨(s, t), mem_cgr.2 ⟨s.toNat, t.toNat, by omega, by omega, by omega, by omega, hm⟩, ?_⟩
    simp [into, hs]
  · rintro ⟨⟨u, v⟩, hm, hi⟩
    obtain ⟨i, j, rfl, rfl, hi20, hj20, hmm⟩ := mem_cgr.1 hm
    unfold into at hi
    simp only [Bool.and_eq_true, beq_iff_eq, List.any_eq_true] at hi
    obtain ⟨rfl, s, hs, rfl⟩ := hi
    exact ⟨_, hs, by simpa [mt] using hmm⟩
theorem findIdx_congr {α : Type} {p q : α → Bool} {l : List α} (h : ∀ x ∈ l, p x = q x) : l.findIdx? p = l.findIdx? q := by
  induction l with
  | nil => rfl
  | cons a l ih =>
    rw [List.findIdx?_cons, List.findIdx?_cons, h a (by simp), ih (fun x hx => h x (by simp [hx]))]
theorem topo_free (M : Nat → Bool) : ∀ (n : Nat) (rem ord : List Int), (∀ t ∈ rem, 0 ≤ t ∧ t < 20) → topo (fm M) n rem ord = topo (free (cgr M 20)) n rem ord
  | 0, _, _, _ => rfl
  | n + 1, rem, ord, hr => by
    unfold topo
    rw [findIdx_congr (fun x hx => fm_free M rem hr x (hr x hx))]
    cases h : List.findIdx? (free (cgr M 20) rem) rem with
    | none => rfl
    | some i => exact topo_free M n _ _ (fun t ht => hr t (List.eraseIdx_subset ht))
theorem order_some (l : List Hop) (f : Int → Int) (hf : ∀ u v, (u, v) ∈ cgr (cfN l l.length) 20 → f u < f v) : ∃ res, orderOf l = some res := by
  unfold orderOf
  rw [topo_free _ _ _ _ (tids_range l)]
  exact topo_some _ f hf _ _ _ rfl
theorem conf_tx {a b : Hop} (h : confl a b = true) : a.tx ≠ b.tx := by
  unfold confl at h
  simp only [Bool.and_eq_true, Bool.not_eq_true', beq_eq_false_iff_ne] at h
  exact h.1
theorem cfN_edge {l : List Hop} (hv : ∀ x ∈ l, x.tx < 20) {i j : Nat} (hj : j < 20) (h : cfN l l.length (i * 20 + j) = true) : ∃ a b, a ∈ l ∧ b ∈ l ∧ a.tx = i ∧ b.tx = j ∧ a.tx ≠ b.tx := by
  obtain ⟨p, q, hpq, hq, hh⟩ := (cfN_iff _ _ _).1 h
  rw [hgetD l (by omega), hgetD l hq] at hh
  unfold hitc at hh
  simp only [Bool.and_eq_true, decide_eq_true_eq] at hh
  have ha := List.getElem_mem (l := l) (show p < l.length by omega)
  have hb := List.getElem_mem (l := l) hq
  have := hv _ hb
  exact ⟨_, _, ha, hb, by omega, by omega, conf_tx hh.1⟩
theorem no_self {l : List Hop} (hv : ∀ x ∈ l, x.tx < 20) : ∀ s, s < 20 → cfN l l.length (s * 20 + s) = false := fun s hs => by
  rw [← Bool.not_eq_true]
  intro h
  obtain ⟨a, b, _, _, e1, e2, e3⟩ := cfN_edge hv hs h
  omega
/-! ### The graph of a class -/
def cfl : List Hop → Nat → Bool
  | [], _ => false
  | x :: l, c => l.any (fun y => hitc x y c) || cfl l c
theorem cfl_iff : ∀ (l : List Hop) (c : Nat), cfl l c = true ↔ ∃ i j, i < j ∧ j < l.length ∧ hitc (l.getD i h0) (l.getD j h0) c = true
  | [], c => ⟨fun h => (by cases h), fun ⟨i, j, _, h, _⟩ => (by cases h)⟩
  | x :: l, c => by
    unfold cfl
    rw [Bool.or_eq_true, cfl_iff l c, List.any_eq_true]
    constructor
    · rintro (⟨y, hy, h⟩ | ⟨i, j, h1, h2, h3⟩)
      · obtain ⟨j, hj, rfl⟩ := List.getElem_of_mem hy
        refine ⟨0, j + 1, by omega, by simpa using hj, ?_⟩
        simpa [List.getD, hj] using h
      · exact ⟨i + 1, j + 1, by omega, by simpa using h2, by simpa [List.getD] using h3⟩
    · rintro ⟨i, j, h1, h2, h3⟩
      cases j with
      | zero => omega
      | succ j =>
        have hj : j < l.length := by simpa using h2
        cases i with
        | zero => exact .inl ⟨l[j], List.getElem_mem hj, by simpa [List.getD, hj] using h3⟩
        | succ i => exact .inr ⟨i, j, by omega, hj, by simpa [List.getD] using h3⟩
theorem cfN_cfl (l : List Hop) : cfN l l.length = cfl l := by
  funext c
  rw [Bool.eq_iff_iff, cfN_iff, cfl_iff]
theorem hit_free {a b : Hop} (h : depH a b = false) (c : Nat) : hitc a b c = false := by
  unfold depH at h
  rw [Bool.or_eq_false_iff] at h
  unfold hitc
  rw [h.2]; rfl
theorem any_perm {l l' : List Hop} (h : l.Perm l') (f : Hop → Bool) : l.any f = l'.any f := by
  rw [Bool.eq_iff_iff, List.any_eq_true, List.any_eq_true]
  exact ⟨fun ⟨x, h1, h2⟩ => ⟨x, h.mem_iff.1 h1, h2⟩, fun ⟨x, h1, h2⟩ => ⟨x, h.mem_iff.2 h1, h2⟩⟩
theorem cfl_eqv {u v : List Hop} (h : Eqv depH u v) : cfl u = cfl v := by
  induction h with
  | nil => rfl
  | cons x h ih =>
    funext c
    unfold cfl
    rw [any_perm h.perm, ih]
  | swap a b s hd =>
    funext c
    have h1 := hit_free hd c
    have h2 := hit_free (by rw [depH_symm]; exact hd : depH b a = false) c
    simp only [cfl, List.any_cons, h1, h2, Bool.false_or]
    cases s.any (fun y => hitc a y c) <;> cases s.any (fun y => hitc b y c) <;> simp
  | trans _ _ ih1 ih2 => exact ih1.trans ih2
/-- Equivalent schedules have one conflict graph. -/
theorem cf_eqv {u v : List Hop} (h : Eqv depH u v) : cfN u u.length = cfN v v.length := by rw [cfN_cfl, cfN_cfl, cfl_eqv h]
theorem tids_perm {u v : List Hop} (h : u.Perm v) (m : Nat) : tids u m = tids v m := by
  unfold tids
  simp only [any_perm h]
theorem order_eqv {u v : List Hop} (h : Eqv depH u v) : orderOf u = orderOf v := by
  unfold orderOf
  rw [cf_eqv h, tids_perm h.perm]
/-- The serial schedule has an order. -/
theorem order_flat {L : List (List Hop)} (hv : TValid L) : ∃ res, orderOf L.flatten = some res := by
  refine order_some _ id fun u v huv => ?_
  have ho := hv.own'
  have hlt : ∀ x ∈ L.flatten, x.tx < 20 := hvalid_mem (merge_valid hv (mrg_flat L ho))
  have hpw : L.flatten.Pairwise fun a b => a.tx ≤ b.tx := by
    rw [List.pairwise_flatten]
    refine ⟨fun l hl => ?_, ?_⟩
    · obtain ⟨i, hi, rfl⟩ := List.getElem_of_mem hl
      have h1 : ∀ x ∈ L[i], x.tx = i := fun x hx => ho i hi x (by simpa [List.getD, hi] using hx)
      refine List.Pairwise.imp_of_mem (R := fun _ _ => True) (fun ha hb _ => by rw [h1 _ ha, h1 _ hb]; exact Nat.le_refl _) (List.pairwise_of_forall fun _ _ => trivial)
    · rw [List.pairwise_iff_getElem]
      intro i j hi hj hij x hx y hy
      have h1 : x.tx = i := ho i hi x (by simpa [List.getD, hi] using hx)
      have h2 : y.tx = j := ho j hj y (by simpa [List.getD, hj] using hy)
      omega
  obtain ⟨i, j, rfl, rfl, hi, hj, hm⟩ := mem_cgr.1 huv
  rw [cfN_iff] at hm
  obtain ⟨p, q, hpq, hq, hh⟩ := hm
  have hp : p < L.flatten.length := Nat.lt_trans hpq hq
  have hle := List.pairwise_iff_getElem.1 hpw p q hp hq hpq
  unfold hitc at hh
  rw [Bool.and_eq_true, decide_eq_true_eq] at hh
  obtain ⟨hc, he⟩ := hh
  have e1 : L.flatten.getD p h0 = L.flatten[p] := (List.getElem_eq_getD h0).symm
  have e2 : L.flatten.getD q h0 = L.flatten[q] := (List.getElem_eq_getD h0).symm
  rw [e1, e2] at hc he
  have h1 := hlt _ (List.getElem_mem hp)
  have h2 := hlt _ (List.getElem_mem hq)
  generalize L.flatten[p] = a at *
  generalize L.flatten[q] = b at *
  have hne : a.tx ≠ b.tx := by
    unfold confl at hc
    intro e
    rw [e] at hc
    simp at hc
  show (i : Int) < (j : Int)
  omega
theorem depH_t {a b : Hop} (h : a.tx = b.tx) : depH a b = true := depH_tx h
theorem ser_pos {L : List (List Hop)} (hv : TValid L) : 1 ≤ serN L := by
  obtain ⟨res, hres⟩ := order_flat hv
  have ho := hv.own'
  have hm := mrg_flat L ho
  have h1 := expl_one (tx := Hop.tx) (dep := depH) (K := 20) depH_symm (fun a b h => depH_tx h) (by have := hv.len; omega) ho hm
  unfold cnt at h1
  obtain ⟨u, hu, he⟩ := List.countP_pos_iff.1 (by rw [h1]; exact Nat.one_pos)
  rw [decide_eq_true_eq] at he
  have hK : ∀ s, Mrg Hop.tx L s → ∀ x ∈ s, x.tx < 20 := fun s hs => hvalid_mem (merge_valid hv hs)
  have heq := (nf_iff depH_symm (fun a b h => depH_tx h) (hK u (sch_merge hv u hu)) (hK _ hm)).1 he
  unfold serN
  refine List.countP_pos_iff.2 ⟨u, hu, ?_⟩
  rw [order_eqv heq, hres]; rfl
theorem ser_le (L : List (List Hop)) : serN L ≤ (sch L).length := List.countP_le_length
theorem sch_grow {L : List (List Hop)} (hv : TValid L) {t : Nat} (ht : t < L.length) {a : Hop} (ha : a.tx = t) : (sch L).length ≤ (sch (L.set t (L.getD t [] ++ [a]))).length :=
  expl_grow (tx := Hop.tx) (dep := depH) (K := 20) depH_symm (fun a b h => depH_tx h) (by have := hv.len; omega) hv.own' ht ha
/-- Where keys differ from transaction to transaction, one class. -/
theorem sch_one {L : List (List Hop)} (hv : TValid L) (hk : ∀ i j, i < L.length → j < L.length → i ≠ j → ∀ a ∈ L.getD i [], ∀ b ∈ L.getD j [], a.key ≠ b.key) : (sch L).length = 1 ∧ serN L = 1 := by
  have ho := hv.own'
  have h1 : (sch L).length = 1 := expl_free (tx := Hop.tx) (dep := depH) (K := 20) depH_symm (fun a b h => depH_tx h) (by have := hv.len; omega) ho (mrg_flat L ho) fun i j hi hj hne a ha b hb => by
    have e1 := ho i hi a ha
    have e2 := ho j hj b hb
    have e3 := hk i j hi hj hne a ha b hb
    have e4 : ¬ a.key.toList = b.key.toList := fun e => e3 (So.ba_inj (by rw [So.tl, So.tl] at e; exact e))
    unfold depH confl
    simp only [Bool.or_eq_false_iff, Bool.and_eq_false_iff, beq_eq_false_iff_ne]
    exact ⟨by omega, .inr (.inl e4)⟩
  have h2 := ser_pos hv
  have h3 := ser_le L
  exact ⟨h1, by omega⟩
/-- Every schedule is in just one of the classes. -/
theorem sch_count {L : List (List Hop)} (hv : TValid L) {s : List Hop} (hs : Mrg Hop.tx L s) : (sch L).countP (fun u => decide (nfH u = nfH s)) = 1 :=
  expl_one (tx := Hop.tx) (dep := depH) (K := 20) depH_symm (fun a b h => depH_tx h) (by have := hv.len; omega) hv.own' hs
theorem graph_nf {u v : List Hop} (hu : HValid u) (hv : HValid v) (h : nfH u = nfH v) : cfN u u.length = cfN v v.length :=
  cf_eqv ((nf_iff (K := 20) depH_symm (fun a b h => depH_tx h) (hvalid_mem hu) (hvalid_mem hv)).1 h)
end Go.Proofs.Ythcldanmppkkjaa.In
