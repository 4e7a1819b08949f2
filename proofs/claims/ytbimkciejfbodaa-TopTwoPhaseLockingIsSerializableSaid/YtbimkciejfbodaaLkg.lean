/- Locks: slices.Sort at ints. -/
import Derived.Test.YtbimkciejfbodaaLke
import Derived.Test.YtbimkciejfbodaaLkf
namespace Go.Proofs.Ytbimkciejfbodaa.Lk
open Go Go.RowKit Hp
open Go.Sort (grow Holds putRow)
set_option linter.unusedVariables false

def srtI (l : List Int) : List Int := l.mergeSort fun x y => decide (x ≤ y)
theorem srtI_perm (l : List Int) : (srtI l).Perm l := List.mergeSort_perm _ _
theorem srtI_len (l : List Int) : (srtI l).length = l.length := (srtI_perm l).length_eq
theorem sortI_own {w : World} {B g n cap q : Nat} {l d : List Int} {os : Array Obj} (h : w.ownsRow B 3 1 (.slice (some ⟨g, 0, none⟩) n cap) n (icI l)) (hs : d.length = n) :
    (grow (putRow (Value.int .i64) (Go.Sort.ahead w q) g 0 d.toArray) os).ownsRow B 3 1 (.slice (some ⟨g, 0, none⟩) n cap) n (icI d) ∧ Chg (fun j => j = g) w (grow (putRow (Value.int .i64) (Go.Sort.ahead w q) g 0 d.toArray) os) := by
  obtain ⟨hx, h⟩ := h
  rcases h with ⟨h0, _⟩ | ⟨g', cap', cur, hv, hb, hg, hn, hc, hcs, ht⟩
  · cases h0
  · simp only [Value.slice.injEq, Option.some.injEq, Addr.mk.injEq, and_true, true_and] at hv
    obtain ⟨rfl, rfl⟩ := hv
    have hgl : g < w.heap.size := Ty.lt ⟨cur, (0, 0), hg⟩
    have hh : (grow (putRow (Value.int .i64) (Go.Sort.ahead w q) g 0 d.toArray) os).heap = w.heap.modify g (Go.Sort.onCells (Go.Sort.putCells (Value.int .i64) 0 d.toArray)) ++ os := rfl
    have hnew : (grow (putRow (Value.int .i64) (Go.Sort.ahead w q) g 0 d.toArray) os).heap[g]? = some (.cells (Go.Sort.putCells (Value.int .i64) 0 d.toArray cur) 3 (0, 0)) := by
      rw [hh, Array.getElem?_append_left (by simpa using hgl), Array.getElem?_modify, if_pos rfl, hg]
      rfl
    refine ⟨⟨by rw [icI_len]; omega, .inr ⟨g, cap, _, rfl, hb, hnew, hn, hc, by simp [Go.Sort.putCells, hcs], ?_⟩⟩, ⟨rfl, rfl, rfl, by rw [hh]; simp, fun k hk hne => ?_⟩⟩
    · refine List.ext_getElem? fun t => ?_
      rw [List.getElem?_take]
      split
      · rename_i htl
        have htd : t < d.length := by omega
        have htc : t < cur.size := by rw [hcs]; omega
        rw [icI_get d t htd]
        simp only [Go.Sort.putCells, Array.getElem?_toList, Array.getElem?_mapIdx, Array.getElem?_eq_getElem htc, Option.map_some, Nat.zero_le, true_and, Nat.zero_add, Nat.sub_zero]
        rw [if_pos (by simpa using htd), getElem!_pos d.toArray t (by simpa using htd)]
        simp
      · rename_i htl
        rw [List.getElem?_eq_none (by rw [icI_len]; omega)]
    · rw [hh, Array.getElem?_append_left (by simpa using hk), Array.getElem?_modify, if_neg (fun e => hne e.symm)]
theorem holdI_own {w : World} {B g n cap : Nat} {l : List Int} (h : w.ownsRow B 3 1 (.slice (some ⟨g, 0, none⟩) n cap) n (icI l)) (hn : 0 < n) : Holds (Value.int .i64) w g 0 l.toArray := fun t ht => by
  obtain ⟨g', c', e, _, _, _, hcl, hz⟩ := own_some h hn
  simp only [Value.slice.injEq, Option.some.injEq, Addr.mk.injEq, and_true, true_and] at e
  obtain ⟨rfl, _⟩ := e
  have ht' : t < l.length := by simpa using ht
  rw [Nat.zero_add]
  refine ⟨?_, hz t⟩
  rw [hcl t _ (icI_get l t ht'), getElem!_pos l.toArray t ht]
  simp
/-- slices.Sort at a row of ints of one's own. -/
theorem sortI_any (B : Nat) (v : Value) (l : List Int) (w : World) (hown : w.ownsRow B 3 1 v l.length (icI l)) (hl : l.length ≤ 1000000) :
    Calls Try.prog 57 #[v] w fun e w' => e = .returned (.tuple #[]) ∧ w'.ownsRow B 3 1 v l.length (icI (srtI l)) ∧ Chg (fun j => v.ownBlock = some j) w w' := by
  rcases Nat.eq_zero_or_pos l.length with h0 | h0
  · obtain ⟨a, cap, rfl, _⟩ := own_form hown
    have hn := AnyM.slices_Sort_int_none Try.sortInts a cap w
    change Calls Try.prog 57 _ _ _ at hn
    rw [h0]
    refine hn.mono ?_
    rintro e w' ⟨rfl, rfl⟩
    have : l = [] := List.length_eq_zero_iff.1 h0
    subst this
    rw [show srtI [] = [] from List.length_eq_zero_iff.1 (srtI_len [])]
    exact ⟨rfl, hown, Chg.refl _ _⟩
  · obtain ⟨g, cap, rfl, h1, h2, hgl, _, _⟩ := own_some hown h0
    have hcon := AnyM.slices_Sort_int Try.sortInts g 0 cap l w (holdI_own hown h0) hgl (by omega)
    change Calls Try.prog 57 _ _ _ at hcon
    refine hcon.mono ?_
    rintro e w' ⟨rfl, q, os, rfl⟩
    obtain ⟨ho, hc⟩ := sortI_own (q := q) (os := os) hown (srtI_len l)
    exact ⟨rfl, ho, hc.mono fun k _ e => by rw [e]; rfl⟩

end Go.Proofs.Ytbimkciejfbodaa.Lk
