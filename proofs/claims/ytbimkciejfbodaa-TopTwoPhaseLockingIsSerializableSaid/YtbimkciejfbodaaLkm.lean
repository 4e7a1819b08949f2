/- Locks: the waits-for graph; the set of visited transactions in memory. -/
import Derived.Test.YtbimkciejfbodaaLkl
import Derived.Maps.Own
import Derived.Maps.Views
namespace Go.Proofs.Ytbimkciejfbodaa.Lk
open Go Go.RowKit Hp
set_option linter.unusedVariables false

/-- t waits for u. -/
def EdgeM (M : Mg) (t u : Int) : Prop := ∃ i, ∃ h : i < M.qu.length, M.qu[i].tx = t ∧ u ∈ blkL (M.gr ++ M.qu.take i) M.qu[i]
inductive Rch (M : Mg) (fs : List Int) : Int → Prop
  | base {u} : u ∈ fs → Rch M fs u
  | step {t u} : Rch M fs t → EdgeM M t u → Rch M fs u
/-- What the first k requests of t wait for. -/
def addL (M : Mg) (t : Int) : Nat → List Int
  | 0 => []
  | k + 1 => addL M t k ++ (match M.qu[k]? with | some q => if q.tx = t then blkL (M.gr ++ M.qu.take k) q else [] | none => [])
theorem addL_hit {M : Mg} {t : Int} {k : Nat} (h : k < M.qu.length) (e : M.qu[k].tx = t) : addL M t (k + 1) = addL M t k ++ blkL (M.gr ++ M.qu.take k) M.qu[k] := by
  simp [addL, h, e]
theorem addL_miss {M : Mg} {t : Int} {k : Nat} (h : k < M.qu.length) (e : M.qu[k].tx ≠ t) : addL M t (k + 1) = addL M t k := by
  simp [addL, h, e]
theorem mem_addL {M : Mg} {t u : Int} : ∀ k, k ≤ M.qu.length → (u ∈ addL M t k ↔ ∃ i, ∃ h : i < M.qu.length, i < k ∧ M.qu[i].tx = t ∧ u ∈ blkL (M.gr ++ M.qu.take i) M.qu[i])
  | 0, _ => by simp [addL]
  | k + 1, hk => by
    have hlt : k < M.qu.length := by omega
    have ih := mem_addL (M := M) (t := t) (u := u) k (by omega)
    by_cases e : M.qu[k].tx = t
    · rw [addL_hit hlt e, List.mem_append, ih]
      constructor
      · rintro (⟨i, h, h1, h2, h3⟩ | h1)
        · exact ⟨i, h, by omega, h2, h3⟩
        · exact ⟨k, hlt, by omega, e, h1⟩
      · rintro ⟨i, h, h1, h2, h3⟩
        rcases Nat.lt_or_ge i k with h4 | h4
        · exact .inl ⟨i, h, h4, h2, h3⟩
        · obtain rfl : i = k := by omega
          exact .inr h3
    · rw [addL_miss hlt e, ih]
      constructor
      · rintro ⟨i, h, h1, h2, h3⟩
        exact ⟨i, h, by omega, h2, h3⟩
      · rintro ⟨i, h, h1, h2, h3⟩
        rcases Nat.lt_or_ge i k with h4 | h4
        · exact ⟨i, h, h4, h2, h3⟩
        · obtain rfl : i = k := by omega
          exact absurd h2 e
theorem edge_iff {M : Mg} {t u : Int} : u ∈ addL M t M.qu.length ↔ EdgeM M t u := by
  rw [mem_addL _ (Nat.le_refl _)]
  constructor
  · rintro ⟨i, h, _, h2, h3⟩; exact ⟨i, h, h2, h3⟩
  · rintro ⟨i, h, h2, h3⟩; exact ⟨i, h, h, h2, h3⟩
theorem blkL_len (xs : List Lk) (l : Lk) : (blkL xs l).length ≤ xs.length := by
  rw [show (blkL xs l).length = (colL xs l).length from srtI_len _]; exact colL_len xs l
theorem addL_len (M : Mg) (t : Int) : ∀ k, (addL M t k).length ≤ k * (M.gr.length + M.qu.length)
  | 0 => by simp [addL]
  | k + 1 => by
    have ih := addL_len M t k
    unfold addL
    rw [List.length_append, Nat.add_mul, Nat.one_mul]
    refine Nat.add_le_add ih ?_
    split
    · split
      · refine Nat.le_trans (blkL_len _ _) ?_
        rw [List.length_append, List.length_take]
        have : min k M.qu.length ≤ M.qu.length := Nat.min_le_right _ _
        omega
      · simp
    · simp
theorem mem_col {xs : List Lk} {l : Lk} {u : Int} : u ∈ blkL xs l ↔ ∃ x ∈ xs, confl x l = true ∧ x.tx = u := by
  unfold blkL
  rw [(srtI_perm _).mem_iff]
  suffices ∀ (xs : List Lk) (a : List Int), u ∈ xs.foldl (colStep l) a ↔ u ∈ a ∨ ∃ x ∈ xs, confl x l = true ∧ x.tx = u by simpa [colL] using this xs []
  intro xs
  induction xs with
  | nil => intro a; simp
  | cons x t ih =>
    intro a
    rw [List.foldl_cons, ih]
    have hs : u ∈ colStep l a x ↔ u ∈ a ∨ (confl x l = true ∧ x.tx = u) := by
      unfold colStep
      split
      · rename_i h
        simp only [Bool.and_eq_true] at h
        simp [h.1, eq_comm]
      · rename_i h
        constructor
        · exact .inl
        · rintro (h1 | ⟨h1, rfl⟩)
          · exact h1
          · simp only [h1, Bool.true_and, Bool.not_eq_true, Bool.not_eq_false'] at h
            obtain ⟨y, hy, e⟩ := List.any_eq_true.1 h
            have e := of_decide_eq_true e
            subst e; exact hy
    rw [hs]
    simp only [List.mem_cons, or_assoc]
    constructor
    · rintro (h | h | ⟨y, h1, h2⟩)
      · exact .inl h
      · exact .inr ⟨x, .inl rfl, h⟩
      · exact .inr ⟨y, .inr h1, h2⟩
    · rintro (h | ⟨y, rfl | h1, h2⟩)
      · exact .inl h
      · exact .inr (.inl h2)
      · exact .inr (.inr ⟨y, h1, h2⟩)
/-- The transactions below 20 that are not visited. -/
def unv (V : List Int) : Nat := ((List.range 20).filter fun i : Nat => !decide ((i : Int) ∈ V)).length
theorem unv_cons {V : List Int} {t : Int} (h0 : 0 ≤ t) (h1 : t < 20) (h2 : t ∉ V) : unv (t :: V) + 1 ≤ unv V := by
  unfold unv
  rw [← List.countP_eq_length_filter, ← List.countP_eq_length_filter]
  suffices ∀ l : List Nat, (∀ i ∈ l, True) → List.countP (fun i : Nat => !decide ((i : Int) ∈ t :: V)) l ≤ List.countP (fun i : Nat => !decide ((i : Int) ∈ V)) l ∧ (t.toNat ∈ l → List.countP (fun i : Nat => !decide ((i : Int) ∈ t :: V)) l + 1 ≤ List.countP (fun i : Nat => !decide ((i : Int) ∈ V)) l) from
    (this (List.range 20) (fun _ _ => trivial)).2 (List.mem_range.2 (by omega))
  intro l _
  induction l with
  | nil => simp
  | cons a l ih =>
    obtain ⟨ih1, ih2⟩ := ih (fun _ _ => trivial)
    by_cases ea : (a : Int) = t
    · have e1 : (!decide ((a : Int) ∈ t :: V)) = false := by simp [ea]
      have e2 : (!decide ((a : Int) ∈ V)) = true := by rw [ea]; simp [h2]
      rw [List.countP_cons, List.countP_cons, e1, e2]
      simp only [Bool.false_eq_true, if_false, if_true]
      exact ⟨by omega, fun _ => by omega⟩
    · have e1 : (!decide ((a : Int) ∈ t :: V)) = (!decide ((a : Int) ∈ V)) := by simp [ea]
      rw [List.countP_cons, List.countP_cons, e1]
      refine ⟨by omega, fun hm => ?_⟩
      rcases List.mem_cons.1 hm with e | e
      · exact absurd (by rw [← e]; omega) ea
      · have := ih2 e; omega
structure RI (M : Mg) (fs : List Int) (tx : Int) (V P : List Int) : Prop where
  v : ∀ u ∈ V, Rch M fs u ∧ u ≠ tx
  p : ∀ u ∈ P, Rch M fs u
  f : ∀ u ∈ fs, u ∈ V ∨ u ∈ P
  c : ∀ t ∈ V, ∀ u, EdgeM M t u → u ∈ V ∨ u ∈ P
theorem RI.start (M : Mg) (fs : List Int) (tx : Int) : RI M fs tx [] fs := ⟨fun _ h => (by cases h), fun _ h => .base h, fun _ h => .inr h, fun _ h => (by cases h)⟩
theorem RI.done {M : Mg} {fs V : List Int} {tx : Int} (h : RI M fs tx V []) : ¬ Rch M fs tx := fun hr => by
  have : ∀ u, Rch M fs u → u ∈ V := fun u hu => by
    induction hu with
    | base h1 => rcases h.f _ h1 with h2 | h2; exact h2; cases h2
    | step _ h1 ih => rcases h.c _ ih _ h1 with h2 | h2; exact h2; cases h2
  exact (h.v _ (this _ hr)).2 rfl
theorem RI.skip {M : Mg} {fs V P : List Int} {tx t : Int} (h : RI M fs tx V (t :: P)) (ht : t ∈ V) : RI M fs tx V P :=
  ⟨h.v, fun u hu => h.p u (List.mem_cons_of_mem _ hu), fun u hu => by rcases h.f u hu with h1 | h1; exact .inl h1; rcases List.mem_cons.1 h1 with rfl | h2; exact .inl ht; exact .inr h2,
    fun s hs u hu => by rcases h.c s hs u hu with h1 | h1; exact .inl h1; rcases List.mem_cons.1 h1 with rfl | h2; exact .inl ht; exact .inr h2⟩
theorem RI.visit {M : Mg} {fs V P : List Int} {tx t : Int} (h : RI M fs tx V (t :: P)) (ht : t ≠ tx) : RI M fs tx (t :: V) (P ++ addL M t M.qu.length) := by
  have hr := h.p t List.mem_cons_self
  have mv : ∀ u, u ∈ V ∨ u ∈ t :: P → u ∈ t :: V ∨ u ∈ P ++ addL M t M.qu.length := fun u hu => by
    rcases hu with h1 | h1
    · exact .inl (List.mem_cons_of_mem _ h1)
    · rcases List.mem_cons.1 h1 with rfl | h2
      · exact .inl List.mem_cons_self
      · exact .inr (List.mem_append_left _ h2)
  refine ⟨fun u hu => ?_, fun u hu => ?_, fun u hu => mv u (h.f u hu), fun s hs u hu => ?_⟩
  · rcases List.mem_cons.1 hu with rfl | h1
    · exact ⟨hr, ht⟩
    · exact h.v u h1
  · rcases List.mem_append.1 hu with h1 | h1
    · exact h.p u (List.mem_cons_of_mem _ h1)
    · exact .step hr (edge_iff.1 h1)
  · rcases List.mem_cons.1 hs with rfl | h1
    · exact .inr (List.mem_append_right _ (edge_iff.2 hu))
    · exact mv u (h.c s h1 u hu)
theorem rch_range {M : Mg} {fs : List Int} (hM : ∀ x ∈ M.gr ++ M.qu, 0 ≤ x.tx ∧ x.tx < 20) (hf : ∀ u ∈ fs, 0 ≤ u ∧ u < 20) {u : Int} (h : Rch M fs u) : 0 ≤ u ∧ u < 20 := by
  cases h with
  | base h => exact hf _ h
  | step _ h =>
    obtain ⟨i, hi, _, h2⟩ := h
    obtain ⟨x, hx, _, rfl⟩ := mem_col.1 h2
    refine hM x ?_
    rcases List.mem_append.1 hx with h3 | h3
    · exact List.mem_append_left _ h3
    · exact List.mem_append_right _ (List.mem_of_mem_take h3)
/-! ### the map -/
def RB (v : Value) : Option (DataW Value × List MemPlace) := some (.held v, [])
def MV (w : World) (mb n : Nat) (V : List Int) : Prop := ∃ D, w.ownsMap Try.prog 3 RB mb n D ∧ ∀ x : Int, D.atKey (.int .i64 x) (.held (.bool false)) = .held (.bool (decide (x ∈ V)))
theorem MV.new (w : World) : MV (w.alloc (.map #[] 0)) w.heap.size 0 [] := ⟨_, World.ownsMap_made _ _ _ _, fun x => by simp [DataW.atKey]⟩
theorem MV.chg {S : Nat → Prop} {w w' : World} {b n : Nat} {V : List Int} (h : MV w b n V) (hc : Chg S w w') (hn : ¬ S b) : MV w' b n V := by
  obtain ⟨D, h, hv⟩ := h
  have hlt := h.lt
  obtain ⟨es, clock, hb, F, hs, hD⟩ := h
  exact ⟨D, ⟨es, clock, (hc.block b hlt hn).trans hb, F, hs, hD⟩, hv⟩
theorem MV.up {w w' : World} {b n : Nat} {V : List Int} (h : MV w b n V) (hu : Up w w') : MV w' b n V := h.chg (Below.chg (fun _ => False) hu) fun e => e
theorem zeroB (w : World) : (zeroValue 4).run Try.prog w = .ok (.bool false) w := by kernel_rfl
theorem keyI {x : Int} (h0 : 0 ≤ x) (h1 : x < 20) : keyOf Try.prog 3 (.int .i64 x) = some (.int .i64 x) := Maps.keyOf_int_mk Try.underlying3 (by have e1 : IntKind.i64.min = -9223372036854775808 := rfl; have e2 : IntKind.i64.max = 9223372036854775807 := rfl; simp [Lit.wf, e1, e2]; omega)
theorem MV.look {w : World} {b n : Nat} {V : List Int} (h : MV w b n V) {x : Int} (h0 : 0 ≤ x) (h1 : x < 20) : Sem.run Try.prog (Instr.lookup 86 (.map (some b)) (.int .i64 x) false) w = .ok (.bool (decide (x ∈ V))) w := by
  obtain ⟨D, h, hv⟩ := h
  obtain ⟨v', ps, hr, hR⟩ := h.lookup (Maps.int_keyed Try.underlying3) Try.underlying86 (zeroB w) (zd := .held (.bool false)) (zp := []) rfl (keyI h0 h1)
  rw [hv x] at hR
  unfold RB at hR
  simp only [Option.some.injEq, Prod.mk.injEq, DataW.held.injEq] at hR
  rw [hr, hR.1]
theorem MV.put {w : World} {b n : Nat} {V : List Int} (h : MV w b n V) (hn : n < 1000) {x : Int} (h0 : 0 ≤ x) (h1 : x < 20) : ∃ w', Sem.run Try.prog (Instr.mapUpdate 86 (.map (some b)) (.int .i64 x) (.bool true)) w = .ok () w' ∧ MV w' b (n + 1) (x :: V) ∧ w.grownBy w' (some b) := by
  obtain ⟨D, h, hv⟩ := h
  have T := h.tidy (Maps.int_keyed Try.underlying3)
  obtain ⟨w', r1, r2, r3⟩ := h.update (Maps.int_keyed Try.underlying3) Try.underlying86 (by unfold maxLen; omega) (keyI h0 h1) (val := .bool true) (d := .held (.bool true)) (ps := []) rfl
  refine ⟨w', r1, ⟨_, r2, fun y => ?_⟩, r3⟩
  by_cases e : y = x
  · subst e
    rw [Maps.atKey_put_same (k := .int .i64 y) T.isMap trivial]
    simp
  · rw [Maps.atKey_put_other (k := .int .i64 x) (k' := .int .i64 y) (fun e2 => e (by cases e2; rfl)), hv y]
    simp [e]
end Go.Proofs.Ytbimkciejfbodaa.Lk
