/- slices.Delete at ints. -/
import Derived.Test.YtinmpodnfofmdaaFr
import Derived.Test.YtinmpodnfofmdaaShd
namespace Go.Proofs.Ytinmpodnfofmdaa.Hp
open Go Go.RowKit
set_option linter.unusedVariables false


theorem heap_setCells (b : Nat) (E : TypeId) (fz : Nat × Nat) : ∀ (vs : List Value) (o : Nat) (w : World) (cur : Array Value), w.heap[b]? = some (.cells cur E fz) →
    ∃ cur' : Array Value, (w.setCells b o vs).heap[b]? = some (.cells cur' E fz) ∧ cur'.size = cur.size ∧ ∀ i, i < cur.size → cur'[i]? = if o ≤ i ∧ i < o + vs.length then vs[i - o]? else cur[i]?
  | [], o, w, cur, h => ⟨cur, h, rfl, fun i hi => by rw [if_neg (by simp)]⟩
  | v :: vs, o, w, cur, h => by
    have h1 : (w.setCell ⟨b, o, none⟩ v).heap[b]? = some (.cells (cur.setIfInBounds o v) E fz) := by
      simp only [World.setCell, Array.getElem?_modify, if_true, h, Option.map_some]; simp
    obtain ⟨cur', e1, e2, e3⟩ := heap_setCells b E fz vs (o + 1) _ _ h1
    refine ⟨cur', e1, by simpa using e2, fun i hi => ?_⟩
    rw [e3 i (by simpa using hi)]
    by_cases hc : o + 1 ≤ i ∧ i < o + 1 + vs.length
    · rw [if_pos hc, if_pos (by simp; omega), show i - o = (i - (o + 1)) + 1 by omega]; simp
    · rw [if_neg hc]
      by_cases hio : i = o
      · subst hio; rw [if_pos (by simp)]; simp [hi]
      · rw [if_neg (by simp; omega), Array.getElem?_setIfInBounds_ne (by omega)]
theorem heap_setCells_other (b k : Nat) (hk : k ≠ b) : ∀ (vs : List Value) (o : Nat) (w : World), (w.setCells b o vs).heap[k]? = w.heap[k]?
  | [], _, _ => rfl
  | v :: vs, o, w => by rw [World.setCells, heap_setCells_other b k hk vs]; exact Below.heap_setCell _ _ _ _ hk
theorem setCells_rest (b : Nat) : ∀ (vs : List Value) (o : Nat) (w : World), (w.setCells b o vs).os = w.os ∧ (w.setCells b o vs).tape = w.tape ∧ (w.setCells b o vs).output = w.output ∧ (w.setCells b o vs).heap.size = w.heap.size
  | [], _, _ => ⟨rfl, rfl, rfl, rfl⟩
  | v :: vs, o, w => by
    obtain ⟨a1, a2, a3, a4⟩ := setCells_rest b vs (o + 1) (w.setCell ⟨b, o, none⟩ v)
    exact ⟨a1, a2, a3, by rw [World.setCells, a4]; simp⟩
theorem own_setCells {w : World} {base g n cap m : Nat} {E : TypeId} {xs vs : List Value} (h : w.ownsRow base E 1 (.slice (some ⟨g, 0, none⟩) n cap) n xs) (hv : vs.length = n) (hm : m ≤ n) :
    (w.setCells g 0 vs).ownsRow base E 1 (.slice (some ⟨g, 0, none⟩) m cap) m (vs.take m) ∧ w.grownBy (w.setCells g 0 vs) (some g) := by
  obtain ⟨hx, h⟩ := h
  rcases h with ⟨h', _⟩ | ⟨g', cap', cur, h', hb, hg, hn, hc, hs, ht⟩
  · simp at h'
  · simp only [Value.slice.injEq, Option.some.injEq, Addr.mk.injEq, and_true, true_and] at h'
    obtain ⟨rfl, rfl⟩ := h'
    obtain ⟨cur', e1, e2, e3⟩ := heap_setCells g E (0, 0) vs 0 w cur hg
    obtain ⟨r1, r2, r3, r4⟩ := setCells_rest g vs 0 w
    refine ⟨⟨by simp; omega, .inr ⟨g, cap, cur', rfl, hb, e1, by omega, hc, by rw [e2]; exact hs, ?_⟩⟩, ⟨r1, r2, r3, by omega, fun k _ hk => heap_setCells_other g k (fun e => hk (by rw [e])) vs 0 w⟩⟩
    refine List.ext_getElem? fun i => ?_
    rw [List.getElem?_take, List.getElem?_take]
    by_cases hi : i < m
    · rw [if_pos (by omega), if_pos hi]
      have := e3 i (by rw [hs]; omega)
      rw [if_pos (by omega)] at this
      simpa using this
    · rw [if_neg (by omega), if_neg hi]

abbrev ic (l : List Int) : List Value := l.map (Value.int .i64)
theorem ints_own {w : World} {base : Nat} {v : Value} {l : List Int} (h : w.ownsRow base 3 1 v l.length (ic l)) : Ints w v l :=
  own_arr h fun g hg hc i hi => by rw [Nat.mul_one]; exact hc i _ (by simp [hi])

/-- slices.Delete of one element, in a row of one's own. -/
theorem del_any (g cap i base : Nat) (l : List Int) (w : World) (h : w.ownsRow base 3 1 (.slice (some ⟨g, 0, none⟩) l.length cap) l.length (ic l)) (hi : i < l.length) :
    Calls Try.prog 39 #[.slice (some ⟨g, 0, none⟩) l.length cap, .int .i64 i, .int .i64 ((i : Int) + 1)] w fun e w' => e = .returned (.slice (some ⟨g, 0, none⟩) (l.length - 1) cap) ∧
      w'.ownsRow base 3 1 (.slice (some ⟨g, 0, none⟩) (l.length - 1) cap) (l.eraseIdx i).length (ic (l.eraseIdx i)) ∧ w.grownBy w' (some g) := by
  have hcap : l.length ≤ cap ∧ cap ≤ 9223372036854775807 := by
    rcases h.2 with ⟨h', _⟩ | ⟨g', cap', cur, h', _, _, hn, hc, _⟩
    · simp at h'
    · simp only [Value.slice.injEq, true_and] at h'
      obtain ⟨_, rfl⟩ := h'
      exact ⟨hn, by unfold maxLen at hc; exact hc⟩
  have hd := Try.slices_Delete_int_cells g 0 l.length cap i (i + 1) l w (Nat.le_refl _) hcap.1 hcap.2 (by omega) (by omega)
    (fun j hj => by rw [Nat.zero_add, h.cellAt j (by omega)]; simp [List.getD, hj]) (fun j hj => h.frozenAt _)
  refine hd.mono fun e w' ⟨he, q, hw⟩ => ?_
  have e1 : ((l.take l.length).take i ++ (l.take l.length).drop (i + 1) ++ List.replicate (i + 1 - i) 0) = l.eraseIdx i ++ [0] := by
    rw [List.take_of_length_le (Nat.le_refl _), List.eraseIdx_eq_take_drop_succ, show i + 1 - i = 1 by omega]; rfl
  have e2 : (l.eraseIdx i).length = l.length - 1 := List.length_eraseIdx_of_lt hi
  rw [e1] at hw
  have ho := own_setCells (w := w.drewN q) (vs := (l.eraseIdx i ++ [0]).map (Value.int .i64)) (m := l.length - 1) (n := l.length) h (by simp [e2]; omega) (by omega)
  rw [← hw] at ho
  refine ⟨by rw [he, show i + 1 - i = 1 by omega], ?_, ⟨ho.2.os, ho.2.tape, ho.2.output, ho.2.size, ho.2.block⟩⟩
  rw [e2]
  have e3 : ((l.eraseIdx i ++ [0]).map (Value.int .i64)).take (l.length - 1) = ic (l.eraseIdx i) := by
    rw [List.map_append, List.take_append_of_le_length (by simp [e2]), List.take_of_length_le (by simp [e2])]
  rw [e3] at ho
  exact ho.1

end Go.Proofs.Ytinmpodnfofmdaa.Hp
