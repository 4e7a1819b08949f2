/- Locks: no deadlock; every request is granted in the end: the plain part. -/
import Derived.Test.YtbimkciejfbodaaLkv
namespace Go.Proofs.Ytbimkciejfbodaa.Lk
open Go Go.RowKit Hp
set_option linter.unusedVariables false

/-- The transactions below N that are not among V. -/
def unvN (N : Nat) (V : List Int) : Nat := ((List.range N).filter fun i : Nat => !decide ((i : Int) ∈ V)).length
theorem unvN_cons {N : Nat} {V : List Int} {t : Int} (h0 : 0 ≤ t) (h1 : t < N) (h2 : t ∉ V) : unvN N (t :: V) + 1 ≤ unvN N V := by
  unfold unvN
  rw [← List.countP_eq_length_filter, ← List.countP_eq_length_filter]
  suffices ∀ l : List Nat, List.countP (fun i : Nat => !decide ((i : Int) ∈ t :: V)) l ≤ List.countP (fun i : Nat => !decide ((i : Int) ∈ V)) l ∧ (t.toNat ∈ l → List.countP (fun i : Nat => !decide ((i : Int) ∈ t :: V)) l + 1 ≤ List.countP (fun i : Nat => !decide ((i : Int) ∈ V)) l) from
    (this (List.range N)).2 (List.mem_range.2 (by omega))
  intro l
  induction l with
  | nil => simp
  | cons a l ih =>
    obtain ⟨ih1, ih2⟩ := ih
    by_cases ea : (a : Int) = t
    · have e1 : (!decide ((a : Int) ∈ t :: V)) = false := by simp [ea]
      have e2 : (!decide ((a : Int) ∈ V)) = true := by rw [ea]; simp [h2]
      rw [List.countP_cons, List.countP_cons, e1, e2]
      simp only [Bool.false_eq_true, if_false, if_true]
      exact ⟨by omega, fun _ => by omega⟩
    · have e1 : (!decide ((a : Int) ∈ t :: V)) = (!decide ((a : Int) ∈ V)) := by simp [ea]
      rw [List.countP_cons, List.countP_cons, e1]
      refine ⟨by omega, fun hm => ?_⟩
      rcases List.mem_cons.1 hm with e | e
      · exact absurd (by rw [← e]; omega) ea
      · have := ih2 e; omega
theorem unvN_nil (N : Nat) : unvN N [] = N := by
  unfold unvN
  have : ((List.range N).filter fun i : Nat => !decide ((i : Int) ∈ ([] : List Int))) = List.range N := List.filter_eq_self.2 fun a _ => by simp
  rw [this, List.length_range]
/-- Distinct numbers below N: at most N. -/
theorem len_unv {N : Nat} : ∀ {V : List Int}, V.Pairwise (· ≠ ·) → (∀ v ∈ V, 0 ≤ v ∧ v < N) → V.length + unvN N V ≤ N
  | [], _, _ => by rw [unvN_nil]; simp
  | v :: V, hp, hr => by
    have ih := len_unv (List.pairwise_cons.1 hp).2 (fun x hx => hr x (List.mem_cons_of_mem _ hx))
    have := unvN_cons (hr v List.mem_cons_self).1 (hr v List.mem_cons_self).2 (fun e => (List.pairwise_cons.1 hp).1 v e rfl)
    simp only [List.length_cons]
    omega
def T6 (M : Mg) : Prop := ∀ x ∈ M.gr ++ M.qu, x.tx < 6
theorem t6_rel {M : Mg} {n : Nat} (h : T6 M) (hg : Good M n) (t : Int) : T6 ⟨(relM M t).1, (relM M t).2.1⟩ := fun x hx => h x ((rel_ok hg.inv t).ok.mem x hx)
def Waits (M : Mg) (t : Int) : Prop := ∃ q ∈ M.qu, q.tx = t
theorem tx_rng {M : Mg} {n : Nat} (hg : Good M n) (h6 : T6 M) {x : Lk} (hx : x ∈ M.gr ++ M.qu) : 0 ≤ x.tx ∧ x.tx < 6 := ⟨(hg.inv.vl x hx).t0, h6 x hx⟩
theorem edge_mem {gr Q : List Lk} {t u : Int} (h : EdgeS gr Q t u) : ∃ x ∈ gr ++ Q, x.tx = u := by
  obtain ⟨A, q, B, e, _, x, h1, _, h2⟩ := h
  refine ⟨x, ?_, h2⟩
  rcases List.mem_append.1 h1 with k | k
  · exact List.mem_append_left _ k
  · exact List.mem_append_right _ (by rw [e]; exact List.mem_append_left _ k)
/-- What WaitsFor says of one who does not wait. -/
theorem waits_no {w w' : World} {M : Mg} {t : Int} {e : Ending} (h : WaitPost M t w e w') (hn : ¬ Waits M t) : e = .returned (.tuple #[.slice none 0 0, .int .i64 4]) ∧ Up w w' := by
  rcases h with ⟨_, h1, h2⟩ | ⟨i, hi, h1, _⟩
  · exact ⟨h1, h2⟩
  · exact absurd ⟨_, List.getElem_mem hi, h1⟩ hn
def Blocked (M : Mg) (t : Int) (w : World) (e : Ending) (w' : World) : Prop :=
  ∃ v u L, e = .returned (.tuple #[v, .int .i64 0]) ∧ w'.ownsRow w.heap.size 3 1 v (L.length + 1) (icI (u :: L)) ∧ Up w w' ∧ (∀ x, x ∈ u :: L ↔ EdgeS M.gr M.qu t x)
/-- .. and of one who does. -/
theorem waits_yes {w w' : World} {M : Mg} {n : Nat} {t : Int} {e : Ending} (h : WaitPost M t w e w') (hg : Good M n) (hy : Waits M t) : Blocked M t w e w' := by
  rcases h with ⟨h1, _⟩ | ⟨i, hi, h1, h2, v, h3, h4, h5⟩
  · obtain ⟨q, hq, e⟩ := hy
    obtain ⟨j, hj, rfl⟩ := List.getElem_of_mem hq
    exact absurd e (h1 j hj)
  · have hne : (blkL (M.gr ++ M.qu.take i) M.qu[i]).length ≠ 0 := blk_ne.2 (hg.blk (M.qu.take i) M.qu[i] (M.qu.drop (i + 1)) (by rw [List.getElem_cons_drop, List.take_append_drop]))
    have hed : ∀ x, x ∈ blkL (M.gr ++ M.qu.take i) M.qu[i] ↔ EdgeS M.gr M.qu t x := fun x => by
      rw [← edgeS_iff]
      constructor
      · exact fun k => ⟨i, hi, h1, k⟩
      · rintro ⟨j, hj, k1, k2⟩
        have : i = j := by
          rcases Nat.lt_trichotomy i j with e | e | e
          · exact absurd (h1.trans k1.symm) (List.pairwise_iff_getElem.1 hg.inv.qd i j hi hj e)
          · exact e
          · exact absurd (k1.trans h1.symm) (List.pairwise_iff_getElem.1 hg.inv.qd j i hj hi e)
        subst this
        exact k2
    generalize blkL (M.gr ++ M.qu.take i) M.qu[i] = L at *
    cases L with
    | nil => exact absurd rfl hne
    | cons u L => exact ⟨v, u, L, h3, h4, h5, hed⟩
/-! ### The chain of law 55 -/
structure Chain (rank : Int → Nat) (V : List Int) (j : Nat) (t : Int) : Prop where
  rk : ∀ v ∈ V, rank t < rank v
  un : unvN 6 V + j ≤ 6
  lo : 0 ≤ t
  hi : t < 6
theorem Chain.lt {rank : Int → Nat} {V : List Int} {j : Nat} {t : Int} (h : Chain rank V j t) : j < 6 := by
  have := unvN_cons (N := 6) h.lo h.hi (fun e => by have := h.rk t e; omega)
  have := h.un
  omega
theorem Chain.start (rank : Int → Nat) {t : Int} (h0 : 0 ≤ t) (h1 : t < 6) : Chain rank [] 0 t := ⟨fun v h => (by cases h), by rw [unvN_nil]; omega, h0, h1⟩
theorem Chain.next {rank : Int → Nat} {V : List Int} {j : Nat} {t u : Int} (h : Chain rank V j t) (hr : rank u < rank t) (h0 : 0 ≤ u) (h1 : u < 6) : Chain rank (t :: V) (j + 1) u := by
  refine ⟨fun v hv => ?_, ?_, h0, h1⟩
  · rcases List.mem_cons.1 hv with rfl | hv
    · exact hr
    · have := h.rk v hv; omega
  · have := unvN_cons (N := 6) h.lo h.hi (fun e => by have := h.rk t e; omega)
    have := h.un
    omega
/-! ### The rounds of law 62 -/
structure Rd (M0 M : Mg) (t : Nat) : Prop where
  good : Good M 240
  t6 : T6 M
  edge : ∀ a u, EdgeS M.gr M.qu a u → EdgeS M0.gr M0.qu a u
  sub : M.qu.Sublist M0.qu
  mem : ∀ x ∈ M.gr ++ M.qu, x ∈ M0.gr ++ M0.qu
  gone : ∀ u : Int, 0 ≤ u → u < t → ¬ Waits M0 u → ∀ x ∈ M.gr ++ M.qu, x.tx ≠ u
theorem Rd.start {M : Mg} (h : Good M 240) (h6 : T6 M) : Rd M M 0 := ⟨h, h6, fun _ _ e => e, List.Sublist.refl _, fun _ e => e, fun u h0 h1 => by omega⟩
theorem Rd.stay {M0 M : Mg} {t : Nat} (h : Rd M0 M t) (hw : Waits M t) : Rd M0 M (t + 1) := ⟨h.good, h.t6, h.edge, h.sub, h.mem, fun u h0 h1 hn => by
  rcases Int.lt_or_le u t with e | e
  · exact h.gone u h0 e hn
  · have : u = t := by omega
    subst this
    obtain ⟨q, hq, e⟩ := hw
    exact absurd ⟨q, h.sub.subset hq, e⟩ hn⟩
theorem Rd.rel {M0 M : Mg} {t : Nat} (h : Rd M0 M t) : Rd M0 ⟨(relM M t).1, (relM M t).2.1⟩ (t + 1) := by
  have hr := rel_ok h.good.inv (t : Int)
  refine ⟨h.good.rel t, t6_rel h.t6 h.good t, fun a u e => h.edge a u (hr.ok.edge a u e), hr.ok.sub.trans h.sub, fun x hx => h.mem x (hr.ok.mem x hx), fun u h0 h1 hn x hx => ?_⟩
  rcases Int.lt_or_le u t with e | e
  · exact h.gone u h0 e hn x (hr.ok.mem x hx)
  · have : u = t := by omega
    subst this
    exact hr.gone x hx
theorem least (rank : Int → Nat) : ∀ (Q : List Lk), Q ≠ [] → ∃ q ∈ Q, ∀ r ∈ Q, rank q.tx ≤ rank r.tx
  | [], h => absurd rfl h
  | [q], _ => ⟨q, List.mem_cons_self, fun r hr => by rw [List.mem_singleton.1 hr]; exact Nat.le_refl _⟩
  | a :: b :: Q, _ => by
    obtain ⟨q, h1, h2⟩ := least rank (b :: Q) (by simp)
    by_cases e : rank a.tx ≤ rank q.tx
    · refine ⟨a, List.mem_cons_self, fun r hr => ?_⟩
      rcases List.mem_cons.1 hr with rfl | hr
      · exact Nat.le_refl _
      · exact Nat.le_trans e (h2 r hr)
    · refine ⟨q, List.mem_cons_of_mem _ h1, fun r hr => ?_⟩
      rcases List.mem_cons.1 hr with rfl | hr
      · omega
      · exact h2 r hr
theorem Rd.fin {M0 M : Mg} (h0 : Good M0 240) (h6 : T6 M0) (h : Rd M0 M 6) : (M0.qu = [] → M.gr = [] ∧ M.qu = []) ∧ (M0.qu ≠ [] → M.qu.length < M0.qu.length) := by
  constructor
  · intro e
    have hno : ∀ x ∈ M.gr ++ M.qu, False := fun x hx => by
      have := tx_rng h.good h.t6 hx
      exact h.gone x.tx this.1 this.2 (fun ⟨q, hq, _⟩ => by rw [e] at hq; cases hq) x hx rfl
    constructor
    · cases hg : M.gr with
      | nil => rfl
      | cons a l => exact (hno a (by rw [hg]; simp)).elim
    · cases hg : M.qu with
      | nil => rfl
      | cons a l => exact (hno a (by rw [hg]; simp)).elim
  · intro hne
    obtain ⟨rank, hr⟩ := h0.inv.rk
    obtain ⟨q0, k1, k2⟩ := least rank M0.qu hne
    rcases Nat.lt_or_ge M.qu.length M0.qu.length with e | e
    · exact e
    · exfalso
      have heq : M.qu = M0.qu := h.sub.eq_of_length (Nat.le_antisymm h.sub.length_le e)
      have hq : q0 ∈ M.qu := by rw [heq]; exact k1
      obtain ⟨A, B, hs⟩ := List.append_of_mem hq
      obtain ⟨x, hx, hc⟩ := h.good.blk A q0 B hs
      have hed : EdgeS M.gr M.qu q0.tx x.tx := ⟨A, q0, B, hs, rfl, x, hx, hc, rfl⟩
      have hxm : x ∈ M.gr ++ M.qu := by
        rcases List.mem_append.1 hx with k | k
        · exact List.mem_append_left _ k
        · exact List.mem_append_right _ (by rw [hs]; exact List.mem_append_left _ k)
      have hlt := hr _ _ (h.edge _ _ hed)
      have hrg := tx_rng h.good h.t6 hxm
      exact h.gone x.tx hrg.1 hrg.2 (fun ⟨r, k3, k4⟩ => by have := k2 r k3; rw [k4] at this; omega) x hxm rfl
theorem qu_len {M : Mg} {n : Nat} (h : Good M n) (h6 : T6 M) : M.qu.length ≤ 6 := by
  have := len_unv (N := 6) (V := M.qu.map (·.tx)) (List.pairwise_map.2 h.inv.qd) (fun v hv => by
    obtain ⟨q, hq, rfl⟩ := List.mem_map.1 hv
    exact tx_rng h h6 (List.mem_append_right _ hq))
  rw [List.length_map] at this
  omega
end Go.Proofs.Ytbimkciejfbodaa.Lk
