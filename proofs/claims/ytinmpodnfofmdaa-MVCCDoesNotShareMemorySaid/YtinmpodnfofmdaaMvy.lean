/- MVCCDoesNotShareMemory: scribble. -/
import Derived.Test.YtinmpodnfofmdaaMvt
namespace Go.Proofs.Ytinmpodnfofmdaa.Mv
open Go Go.RowKit Hp So
set_option linter.unusedVariables false

theorem cells_set {w : World} {g i : Nat} {cur : Array Value} {E : TypeId} {u : Value} (h : w.heap[g]? = some (.cells cur E (0, 0))) : (w.setCell ⟨g, i, none⟩ u).heap[g]? = some (.cells (cur.setIfInBounds i u) E (0, 0)) := by
  simp only [World.setCell, Array.getElem?_modify, if_true, h, Option.map_some]
  rfl
/-- Block g is a row of that many cells, whatever they are. -/
def Raw (w : World) (g m : Nat) (E : TypeId) : Prop := ∃ cur : Array Value, w.heap[g]? = some (.cells cur E (0, 0)) ∧ cur.size = m
theorem Raw.set {w : World} {g m i : Nat} {E : TypeId} {u : Value} (h : Raw w g m E) : Raw (w.setCell ⟨g, i, none⟩ u) g m E := by
  obtain ⟨cur, h1, h2⟩ := h
  exact ⟨_, cells_set h1, by simpa using h2⟩
theorem Raw.cell {w : World} {g m i : Nat} {E : TypeId} (h : Raw w g m E) (hi : i < m) : ∃ v, w.cell? ⟨g, i, none⟩ = some v := by
  obtain ⟨cur, h1, h2⟩ := h
  refine ⟨cur[i], ?_⟩
  simp [World.cell?, h1]
theorem Raw.free {w : World} {g m i : Nat} {E : TypeId} (h : Raw w g m E) : w.frozen? ⟨g, i, none⟩ = false := by
  obtain ⟨cur, h1, h2⟩ := h
  simp [World.frozen?, h1]
theorem Raw.lt {w : World} {g m : Nat} {E : TypeId} (h : Raw w g m E) : g < w.heap.size := by obtain ⟨cur, h1, _⟩ := h; exact Ty.lt ⟨cur, _, h1⟩
theorem Raw.chg {S : Nat → Prop} {w w' : World} {g m : Nat} {E : TypeId} (h : Raw w g m E) (hc : Chg S w w') (hn : ¬ S g) : Raw w' g m E := by
  have hl := h.lt
  obtain ⟨cur, h1, h2⟩ := h
  exact ⟨cur, (hc.block g hl hn).trans h1, h2⟩
theorem own_raw {w : World} {base g n cap : Nat} {E : TypeId} {size : Nat} {xs : List Value} (h : w.ownsRow base E size (.slice (some ⟨g, 0, none⟩) n cap) n xs) : Raw w g (cap * size) E ∧ n ≤ cap ∧ cap ≤ 9223372036854775807 := by
  obtain ⟨hx, h⟩ := h
  rcases h with ⟨h0, _⟩ | ⟨g', cap', cur, hv, hb, hg, hn, hc, hs, ht⟩
  · cases h0
  · simp only [Value.slice.injEq, Option.some.injEq, Addr.mk.injEq, and_true, true_and] at hv
    obtain ⟨rfl, rfl⟩ := hv
    exact ⟨⟨cur, hg, hs⟩, hn, by unfold maxLen at hc; exact hc⟩
set_option maxRecDepth 100000 in
set_option maxHeartbeats 2000000 in
theorem scribble_any (g n cap : Nat) (k i : Int) (s : ByteArray) (w : World) (h : Raw w g (cap * 3) 39) (hn : n ≤ cap) (hc : cap ≤ 9223372036854775807) :
    Calls Try.prog 25 #[.slice (some ⟨g, 0, none⟩) n cap, .agg #[.int .i64 k, .int .i64 i, .string s]] w fun e w' => e = .returned (.tuple #[]) ∧ Chg (fun j => j = g) w w' := by
  have HR := Lib.hid h
  have hgl := h.lt
  clear h
  go_enter Try.func25, Try.ntmps25
  go_wp2
  go_loopw [11] (fun iv wr => ∃ j : Nat, j ≤ cap ∧ iv = .int .i64 j ∧ Hid (Raw wr g (cap * 3) 39) ∧ Hid (Chg (fun j => j = g) w wr) ∧ Hid (Blk wr w.heap.size [.int .i64 k, .int .i64 i, .string s] 39)) (fun iv _ => cap - (intOf iv).toNat)
  case atStart => exact ⟨0, by omega, rfl, HR.out.chg (Below.chg (fun _ => False) ((Up.refl w).alloc _)) (fun e => e), Below.chg _ ((Up.refl w).alloc _), Blk.new _ _ _⟩
  case round =>
    obtain ⟨j, hj, rfl, HW, HC, HB⟩ := hrel
    by_cases hlt : j < cap
    · obtain ⟨v0, e0⟩ := HW.out.cell (i := j * 3) (by omega)
      obtain ⟨v1, e1⟩ := HW.out.cell (i := j * 3 + 1) (by omega)
      obtain ⟨v2, e2⟩ := HW.out.cell (i := j * 3 + 2) (by omega)
      have f0 := HW.out.free (i := j * 3)
      have f1 := HW.out.free (i := j * 3 + 1)
      have f2 := HW.out.free (i := j * 3 + 2)
      have c0 := HB.out.cell 0
      rw [show ([Value.int .i64 k, .int .i64 i, .string s])[0]? = some (.int .i64 k) from rfl] at c0
      have c1 := HB.out.cell 1
      rw [show ([Value.int .i64 k, .int .i64 i, .string s])[1]? = some (.int .i64 i) from rfl] at c1
      have c2 := HB.out.cell 2
      rw [show ([Value.int .i64 k, .int .i64 i, .string s])[2]? = some (.string s) from rfl] at c2
      have b1 : (j : Int) < (cap : Int) := by omega
      go_wp2
      go_roundw
      case rel =>
        refine ⟨j + 1, by omega, by go_num, ((HW.out.set).set).set, ?_, ?_⟩
        · exact ((HC.out.set (.inl rfl) _ _ _).set (.inl rfl) _ _ _).set (.inl rfl) _ _ _
        · exact ((HB.out.other (by omega) _ _ _).other (by omega) _ _ _).other (by omega) _ _ _
      case measure => simp [intOf]; omega
    · obtain rfl : j = cap := by omega
      go_wp2
      go_end0
      exact ⟨rfl, HC.out⟩
end Go.Proofs.Ytinmpodnfofmdaa.Mv
