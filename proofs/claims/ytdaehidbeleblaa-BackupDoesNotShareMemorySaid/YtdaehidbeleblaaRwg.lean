/- Rows that are scribbled on; append(x, make(..)...). -/
import Derived.Test.YtdaehidbeleblaaRwf
namespace Go.Proofs.Ytdaehidbeleblaa.Mv
open Go Go.RowKit Hp So
set_option linter.unusedVariables false

theorem cells_set {w : World} {g i : Nat} {cur : Array Value} {E : TypeId} {u : Value} (h : w.heap[g]? = some (.cells cur E (0, 0))) : (w.setCell ⟨g, i, none⟩ u).heap[g]? = some (.cells (cur.setIfInBounds i u) E (0, 0)) := by
  simp only [World.setCell, Array.getElem?_modify, if_true, h, Option.map_some]
  rfl
/-- Block g is a row of that many cells, whatever they are. -/
def Raw (w : World) (g m : Nat) (E : TypeId) : Prop := ∃ cur : Array Value, w.heap[g]? = some (.cells cur E (0, 0)) ∧ cur.size = m
theorem Raw.set {w : World} {g m i : Nat} {E : TypeId} {u : Value} (h : Raw w g m E) : Raw (w.setCell ⟨g, i, none⟩ u) g m E := by
  obtain ⟨cur, h1, h2⟩ := h
  exact ⟨_, cells_set h1, by simpa using h2⟩
theorem Raw.cell {w : World} {g m i : Nat} {E : TypeId} (h : Raw w g m E) (hi : i < m) : ∃ v, w.cell? ⟨g, i, none⟩ = some v := by
  obtain ⟨cur, h1, h2⟩ := h
  refine ⟨cur[i], ?_⟩
  simp [World.cell?, h1]
theorem Raw.free {w : World} {g m i : Nat} {E : TypeId} (h : Raw w g m E) : w.frozen? ⟨g, i, none⟩ = false := by
  obtain ⟨cur, h1, h2⟩ := h
  simp [World.frozen?, h1]
theorem Raw.lt {w : World} {g m : Nat} {E : TypeId} (h : Raw w g m E) : g < w.heap.size := by obtain ⟨cur, h1, _⟩ := h; exact Ty.lt ⟨cur, _, h1⟩
theorem Raw.chg {S : Nat → Prop} {w w' : World} {g m : Nat} {E : TypeId} (h : Raw w g m E) (hc : Chg S w w') (hn : ¬ S g) : Raw w' g m E := by
  have hl := h.lt
  obtain ⟨cur, h1, h2⟩ := h
  exact ⟨cur, (hc.block g hl hn).trans h1, h2⟩
theorem own_raw {w : World} {base g n cap : Nat} {E : TypeId} {size : Nat} {xs : List Value} (h : w.ownsRow base E size (.slice (some ⟨g, 0, none⟩) n cap) n xs) : Raw w g (cap * size) E ∧ n ≤ cap ∧ cap ≤ 9223372036854775807 := by
  obtain ⟨hx, h⟩ := h
  rcases h with ⟨h0, _⟩ | ⟨g', cap', cur, hv, hb, hg, hn, hc, hs, ht⟩
  · cases h0
  · simp only [Value.slice.injEq, Option.some.injEq, Addr.mk.injEq, and_true, true_and] at hv
    obtain ⟨rfl, rfl⟩ := hv
    exact ⟨⟨cur, hg, hs⟩, hn, by unfold maxLen at hc; exact hc⟩
set_option maxRecDepth 100000 in
set_option maxHeartbeats 2000000 in
theorem scribble_any (g n cap : Nat) (k i : Int) (s : ByteArray) (w : World) (h : Raw w g (cap * 3) 34) (hn : n ≤ cap) (hc : cap ≤ 9223372036854775807) :
    Calls Try.prog 13 #[.slice (some ⟨g, 0, none⟩) n cap, .agg #[.int .i64 k, .int .i64 i, .string s]] w fun e w' => e = .returned (.tuple #[]) ∧ Chg (fun j => j = g) w w' := by
  have HR := Lib.hid h
  have hgl := h.lt
  clear h
  go_enter Try.func13, Try.ntmps13
  go_wp2
  go_loopw [11] (fun iv wr => ∃ j : Nat, j ≤ cap ∧ iv = .int .i64 j ∧ Hid (Raw wr g (cap * 3) 34) ∧ Hid (Chg (fun j => j = g) w wr) ∧ Hid (Blk wr w.heap.size [.int .i64 k, .int .i64 i, .string s] 34)) (fun iv _ => cap - (intOf iv).toNat)
  case atStart => exact ⟨0, by omega, rfl, HR.out.chg (Below.chg (fun _ => False) ((Up.refl w).alloc _)) (fun e => e), Below.chg _ ((Up.refl w).alloc _), Blk.new _ _ _⟩
  case round =>
    obtain ⟨j, hj, rfl, HW, HC, HB⟩ := hrel
    by_cases hlt : j < cap
    · obtain ⟨v0, e0⟩ := HW.out.cell (i := j * 3) (by omega)
      obtain ⟨v1, e1⟩ := HW.out.cell (i := j * 3 + 1) (by omega)
      obtain ⟨v2, e2⟩ := HW.out.cell (i := j * 3 + 2) (by omega)
      have f0 := HW.out.free (i := j * 3)
      have f1 := HW.out.free (i := j * 3 + 1)
      have f2 := HW.out.free (i := j * 3 + 2)
      have c0 := HB.out.cell 0
      rw [show ([Value.int .i64 k, .int .i64 i, .string s])[0]? = some (.int .i64 k) from rfl] at c0
      have c1 := HB.out.cell 1
      rw [show ([Value.int .i64 k, .int .i64 i, .string s])[1]? = some (.int .i64 i) from rfl] at c1
      have c2 := HB.out.cell 2
      rw [show ([Value.int .i64 k, .int .i64 i, .string s])[2]? = some (.string s) from rfl] at c2
      have b1 : (j : Int) < (cap : Int) := by omega
      go_wp2
      go_roundw
      case rel =>
        refine ⟨j + 1, by omega, by go_num, ((HW.out.set).set).set, ?_, ?_⟩
        · exact ((HC.out.set (.inl rfl) _ _ _).set (.inl rfl) _ _ _).set (.inl rfl) _ _ _
        · exact ((HB.out.other (by omega) _ _ _).other (by omega) _ _ _).other (by omega) _ _ _
      case measure => simp [intOf]; omega
    · obtain rfl : j = cap := by omega
      go_wp2
      go_end0
      exact ⟨rfl, HC.out⟩
theorem wl_append_run {P : Program} (w : World) {ops : Array Oper} {rest : List Oper} {o : Oper} {a : Act} {Q : Exit → Act → World → Prop} (hgd : o.guard = none) (d s : Operand) (t t' : TypeId)
    (ho : o.op = .call { callee := .builtin .append, args := #[d, s], argTypes := #[t, t'] }) (v u : Value) (hd : a.eval d = v) (hs : a.eval s = u) {v' : Value} {w' : World}
    (hr : (Builtin.append_ #[t, t'] o.type #[v, u]).run P w = .ok v' w') (h : wpList P ops Q rest (a.put o.dst v') w') : wpList P ops Q (o :: rest) a w :=
  wpList_plain hgd fun K hK => by
    have h2 := hK _ _ h
    unfold Oper.wp execOp
    simp only [ho, resolve, invoke, builtin, Sem.run_bind, Sem.run_pure, Result.andThen_ok, List.map_toArray, List.map_cons, List.map_nil, hd, hs, hr]
    exact h2
theorem Try.infoVal : (Try.prog.info? 34).map (fun i => (i.zero, i.size, i.bytes)) = some (some (.agg #[.int .i64 0, .int .i64 0, .string ByteArray.empty]), 3, 32) := by kernel_rfl
/-- append(Row(r), make(api.Row, 2)...): a new row with two zeros behind. -/
theorem app_row (w : World) (b : Nat) (r : List Val) (hr : r.length = 1) (h : w.ownsRow b 34 3 (.slice (some ⟨b, 0, none⟩) 1 1) r.length (rowC r)) :
    ∃ C w', (Builtin.append_ #[27, 3] 27 #[.slice (some ⟨b, 0, none⟩) 1 1, .int .i64 2]).run Try.prog w = .ok (.slice (some ⟨w.heap.size, 0, none⟩) 3 C) w' ∧ 3 ≤ C ∧ C ≤ 9223372036854775807 ∧ Up w w' ∧ Raw w' w.heap.size (C * 3) 34 ∧ Src w' 3 (.slice (some ⟨w.heap.size, 0, none⟩) 1 C) r.length (rowC r) ∧ w.heap.size < w'.heap.size := by
  obtain ⟨i0, hi0, hz0, hz1, hz2⟩ := info_parts Try.infoVal
  have hl : (rowC r).length = 3 := by rw [rowC_len, hr]
  obtain ⟨g, cap, hv, _, _, hgl, hc, _⟩ := own_some h (by omega)
  simp only [Value.slice.injEq, Option.some.injEq, Addr.mk.injEq, and_true] at hv
  obtain ⟨rfl, _, rfl⟩ := hv
  have R1 := run_append_grow_zeros (P := Try.prog) w 27 3 27 34 i0 (.agg #[.int .i64 0, .int .i64 0, .string ByteArray.empty]) .i64 .i64 Try.underlying27 Try.underlying3 hi0 hz0 ⟨b, 0, none⟩ 1 1 (rowC r) (by rw [hl, hz1]) (fun j v hj => by rw [Addr.add_lit, Nat.zero_add]; exact hc j v hj) 2 (by omega) (by rw [hz1]; omega) (by omega) (by omega) (by rw [hz2]; decide) (by rw [hz2]; omega)
  have hC1 := grownCap_ge w 3 1 34
  have hC2 := grownCap_le_maxLen w 3 1 34 (by unfold maxLen; omega)
  refine ⟨grownCap w 3 1 34, _, R1, hC1, by unfold maxLen at hC2; exact hC2, (Up.refl w).drew.alloc _, ⟨_, heap_alloc_new _ _, ?_⟩, ?_, by simp⟩
  · simp only [Array.size_append, zeroCells_size, List.size_toArray, hl]
    have : ((.agg #[.int .i64 0, .int .i64 0, .string ByteArray.empty] : Value).cells).size = 3 := rfl
    rw [this]
    show 3 + 2 * 3 + (grownCap w 3 1 34 - (1 + 2)) * 3 = grownCap w 3 1 34 * 3
    omega
  · refine ⟨by rw [hl, hr], .inr ⟨_, 0, _, by rw [hr], by rw [hr]; omega, by unfold maxLen at hC2; exact hC2, fun j u hj => ?_⟩⟩
    have hj3 : j < 3 := by
      rcases Nat.lt_or_ge j 3 with h' | h'
      · exact h'
      · rw [List.getElem?_eq_none (by omega)] at hj; cases hj
    refine ⟨by simp, ?_⟩
    rw [Nat.zero_add]
    have := World.cell?_alloc_new w.drew ((rowC r).toArray ++ Builtin.zeroCells ((.agg #[.int .i64 0, .int .i64 0, .string ByteArray.empty] : Value).cells) 2 ++ Builtin.zeroCells ((.agg #[.int .i64 0, .int .i64 0, .string ByteArray.empty] : Value).cells) (grownCap w 3 1 34 - (1 + 2))) 34 j
    refine this.trans ?_
    rw [Array.append_assoc, Array.getElem?_append_left (by simp [hl]; omega)]
    simpa using hj
end Go.Proofs.Ytdaehidbeleblaa.Mv
