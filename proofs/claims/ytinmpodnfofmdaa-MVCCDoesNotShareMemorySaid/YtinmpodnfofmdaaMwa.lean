/- MVCCDoesNotShareMemory: the plain part, and the first loop's append. -/
import Derived.Test.YtinmpodnfofmdaaMvy
import Derived.Test.YtinmpodnfofmdaaMvw
namespace Go.Proofs.Ytinmpodnfofmdaa.Mv
open Go Go.RowKit Hp So
set_option linter.unusedVariables false

/-- The store behind k rounds. -/
def memL (zs : List Int) : Nat → List PC
  | 0 => []
  | k + 1 => adL (memL zs k) (keyB (k : Int)) ⟨(k : Int) + 1, false, rowV (zs.getD k 0)⟩
theorem mem_ok (zs : List Int) (k : Nat) (hk : k ≤ 200) : HOk (memL zs k) k := by
  induction k with
  | zero => exact HOk.nil
  | succ k ih => exact ((ih (by omega)).add (by omega) (k : Int) ⟨(k : Int) + 1, false, rowV (zs.getD k 0)⟩ (by simp [rowV]) rfl).1
theorem mem_row1 (zs : List Int) (k : Nat) : ∀ c ∈ memL zs k, ∀ v ∈ c.2, v.row.length = 1 := by
  induction k with
  | zero => intro c hc; cases hc
  | succ k ih =>
    intro c hc v hv
    rcases (adL_mem hc).1 v hv with e | ⟨c0, h0, h1⟩
    · subst e; rfl
    · exact ih c0 h0 v h1
theorem six_ne : ∀ i < 6, ∀ j < 6, i ≠ j → keyB ((i : Nat) : Int) ≠ keyB ((j : Nat) : Int) := by decide
theorem mem_look (zs : List Int) (k i : Nat) (hk : k ≤ 6) (hi : i < k) : look (memL zs k) (keyB (i : Int)) = [⟨(i : Int) + 1, false, rowV (zs.getD i 0)⟩] ∧ ∀ j, k ≤ j → j < 6 → look (memL zs k) (keyB (j : Int)) = [] := by
  suffices h : ∀ k, k ≤ 6 → (∀ i, i < k → look (memL zs k) (keyB (i : Int)) = [⟨(i : Int) + 1, false, rowV (zs.getD i 0)⟩]) ∧ ∀ j, k ≤ j → j < 6 → look (memL zs k) (keyB (j : Int)) = [] from ⟨(h k hk).1 i hi, (h k hk).2⟩
  intro k
  induction k with
  | zero => exact fun _ => ⟨fun i hi => by omega, fun j _ _ => rfl⟩
  | succ k ih =>
    intro hk
    obtain ⟨h1, h2⟩ := ih (by omega)
    have a0 := mem_ok zs k (by omega)
    have a1 := mem_ok zs (k + 1) (by omega)
    have e : ∀ j, look (memL zs (k + 1)) (keyB (j : Int)) = if keyB (j : Int) = keyB (k : Int) then look (memL zs k) (keyB (k : Int)) ++ [⟨(k : Int) + 1, false, rowV (zs.getD k 0)⟩] else look (memL zs k) (keyB (j : Int)) := fun j => look_ad (hz := 0) a0.ok.srt _ _ a1.ok.srt _
    refine ⟨fun i hi => ?_, fun j hj hj6 => ?_⟩
    · have := e i
      rw [this]
      by_cases hik : i = k
      · subst hik; rw [if_pos rfl, h2 i (Nat.le_refl _) (by omega)]; rfl
      · rw [if_neg (six_ne i (by omega) k (by omega) hik)]; exact h1 i (by omega)
    · have := e j
      rw [this, if_neg (six_ne j hj6 k (by omega) (by omega))]
      exact h2 j (by omega) hj6
theorem mem_get (zs : List Int) (k i : Nat) (hk : k ≤ 6) (hi : i < k) : getL (memL zs k) 0 (keyB (i : Int)) 100 = (rowV (zs.getD i 0), 0) := by
  rw [getL_look _ _ _ _ (by omega), (mem_look zs k i hk hi).1]
  unfold vis1 visL
  have : (i : Int) + 1 ≤ 100 := by omega
  simp [this]
theorem mem_scan1 (zs : List Int) (k : Nat) (hk : k ≤ 6) (ts : Int) : ∀ r ∈ scanL (memL zs k) ts, r.2.length = 1 := fun r hr => by
  unfold scanL at hr
  obtain ⟨c, hc, he⟩ := List.mem_filterMap.1 hr
  obtain ⟨x, hx, rfl⟩ := Option.map_eq_some_iff.1 he
  unfold vis1 at hx
  cases hv : visL c.2 ts with
  | none => rw [hv] at hx; cases hx
  | some v =>
    rw [hv] at hx
    simp only at hx
    split at hx
    · cases hx
    · cases hx
      exact mem_row1 zs k c hc v (List.mem_reverse.1 (List.mem_of_find?_eq_some hv))

theorem wl_append_run {P : Program} (w : World) {ops : Array Oper} {rest : List Oper} {o : Oper} {a : Act} {Q : Exit → Act → World → Prop} (hgd : o.guard = none) (d s : Operand) (t t' : TypeId)
    (ho : o.op = .call { callee := .builtin .append, args := #[d, s], argTypes := #[t, t'] }) (v u : Value) (hd : a.eval d = v) (hs : a.eval s = u) {v' : Value} {w' : World}
    (hr : (Builtin.append_ #[t, t'] o.type #[v, u]).run P w = .ok v' w') (h : wpList P ops Q rest (a.put o.dst v') w') : wpList P ops Q (o :: rest) a w :=
  wpList_plain hgd fun K hK => by
    have h2 := hK _ _ h
    unfold Oper.wp execOp
    simp only [ho, resolve, invoke, builtin, Sem.run_bind, Sem.run_pure, Result.andThen_ok, List.map_toArray, List.map_cons, List.map_nil, hd, hs, hr]
    exact h2
theorem Try.infoVal : (Try.prog.info? 39).map (fun i => (i.zero, i.size, i.bytes)) = some (some (.agg #[.int .i64 0, .int .i64 0, .string ByteArray.empty]), 3, 32) := by kernel_rfl
/-- append(Row(r), make(api.Row, 2)...): a new row with two zeros behind. -/
theorem app_row (w : World) (b : Nat) (r : List Val) (hr : r.length = 1) (h : w.ownsRow b 39 3 (.slice (some ⟨b, 0, none⟩) 1 1) r.length (rowC r)) :
    ∃ C w', (Builtin.append_ #[32, 3] 32 #[.slice (some ⟨b, 0, none⟩) 1 1, .int .i64 2]).run Try.prog w = .ok (.slice (some ⟨w.heap.size, 0, none⟩) 3 C) w' ∧ 3 ≤ C ∧ C ≤ 9223372036854775807 ∧ Up w w' ∧ Raw w' w.heap.size (C * 3) 39 ∧ Src w' 3 (.slice (some ⟨w.heap.size, 0, none⟩) 1 C) r.length (rowC r) ∧ w.heap.size < w'.heap.size := by
  obtain ⟨i0, hi0, hz0, hz1, hz2⟩ := info_parts Try.infoVal
  have hl : (rowC r).length = 3 := by rw [rowC_len, hr]
  obtain ⟨g, cap, hv, _, _, hc⟩ := own_cell h (by omega)
  simp only [Value.slice.injEq, Option.some.injEq, Addr.mk.injEq, and_true] at hv
  obtain ⟨rfl, _, rfl⟩ := hv
  have R1 := run_append_grow_zeros (P := Try.prog) w 32 3 32 39 i0 (.agg #[.int .i64 0, .int .i64 0, .string ByteArray.empty]) .i64 .i64 Try.underlying32 Try.underlying3 hi0 hz0 ⟨b, 0, none⟩ 1 1 (rowC r) (by rw [hl, hz1]) (fun j v hj => by rw [Addr.add_lit, Nat.zero_add]; exact (hc j v hj).2) 2 (by omega) (by rw [hz1]; omega) (by omega) (by omega) (by rw [hz2]; decide) (by rw [hz2]; omega)
  have hC1 := grownCap_ge w 3 1 39
  have hC2 := grownCap_le_maxLen w 3 1 39 (by unfold maxLen; omega)
  refine ⟨grownCap w 3 1 39, _, R1, hC1, by unfold maxLen at hC2; exact hC2, (Up.refl w).drew.alloc _, ⟨_, heap_alloc_new _ _, ?_⟩, ?_, by simp⟩
  · simp only [Array.size_append, zeroCells_size, List.size_toArray, hl]
    have : ((.agg #[.int .i64 0, .int .i64 0, .string ByteArray.empty] : Value).cells).size = 3 := rfl
    rw [this]
    show 3 + 2 * 3 + (grownCap w 3 1 39 - (1 + 2)) * 3 = grownCap w 3 1 39 * 3
    omega
  · refine ⟨by rw [hl, hr], .inr ⟨_, 0, _, by rw [hr], by rw [hr]; omega, by unfold maxLen at hC2; exact hC2, fun j u hj => ?_⟩⟩
    have hj3 : j < 3 := by
      rcases Nat.lt_or_ge j 3 with h' | h'
      · exact h'
      · rw [List.getElem?_eq_none (by omega)] at hj; cases hj
    refine ⟨by simp, ?_⟩
    rw [Nat.zero_add]
    have := World.cell?_alloc_new w.drew ((rowC r).toArray ++ Builtin.zeroCells ((.agg #[.int .i64 0, .int .i64 0, .string ByteArray.empty] : Value).cells) 2 ++ Builtin.zeroCells ((.agg #[.int .i64 0, .int .i64 0, .string ByteArray.empty] : Value).cells) (grownCap w 3 1 39 - (1 + 2))) 39 j
    refine this.trans ?_
    rw [Array.append_assoc, Array.getElem?_append_left (by simp [hl]; omega)]
    simpa using hj
end Go.Proofs.Ytinmpodnfofmdaa.Mv
