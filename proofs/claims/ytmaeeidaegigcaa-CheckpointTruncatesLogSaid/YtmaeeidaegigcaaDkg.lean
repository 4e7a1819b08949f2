/- bytes.Equal, Mod, Pending; what the laws share. -/
import Derived.Test.YtmaeeidaegigcaaDkf
import Derived.Laws.BytesString
namespace Go.Proofs.Ytmaeeidaegigcaa.Dk
open Go Go.RowKit Hp
set_option linter.unusedVariables false

theorem mod_any (k n : Int) (w : World) (h0 : 0 < n) (h1 : n ≤ 1000000) :
    Calls Try.prog 15 #[.int .i64 k, .int .i64 n] w fun e w' => e = .returned (.int .i64 (modV k n)) ∧ w = w' := by
  have HD := Lib.hid (mod_eq k n h0 h1)
  go_enter Try.func15, Try.ntmps15
  go_wp2
  go_ret
  exact ⟨by simp [HD.out], rfl⟩
/-- The string of a list of bytes. -/
def bstr (l : List Int) : ByteArray := l.foldl (fun r n => r.push (UInt8.ofNat n.toNat)) ByteArray.empty
theorem convB (w : World) (v : Value) (l : List Int) (h : Bytes w v l) : (convert 28 9 v).run Try.prog w = .ok (.string (bstr l)) w := by
  obtain ⟨a, cap, rfl, h1, h2, h3, h4⟩ := h
  rw [run_convert_bytes_string _ 28 9 5 _ _ _ Try.underlying28 Try.underlying5 Try.underlying9]
  cases a with
  | none =>
    have : l = [] := List.length_eq_zero_iff.1 (by have := h3 rfl; omega)
    subst this
    rfl
  | some ad =>
    have hl := run_loadCells_list (P := Try.prog) (w := w) ad (bc l) fun j u hj => by
      have hjl : j < l.length := by have := (List.getElem?_eq_some_iff.1 hj).1; simpa using this
      obtain ⟨b, off, he, hb, hr⟩ := h4 j hjl
      cases he
      rw [Addr.add_lit]
      rw [Nat.mul_one] at hr
      rw [hr]
      simpa [hjl] using hj
    rw [List.length_map] at hl
    exact run_bytesToString w ad l.length cap l hl
set_option maxHeartbeats 1000000 in
theorem equalB_same (v v' : Value) (l : List Int) (w : World) (h : Bytes w v l) (h' : Bytes w v' l) :
    Calls Try.prog 18 #[v, v'] w fun e w' => e = .returned (.bool true) ∧ w = w' := by
  have c1 := convB w v l h
  have c2 := convB w v' l h'
  clear h h'
  go_enter Try.func18, Try.ntmps18
  go_wp2
  go_ret
  exact ⟨by simp, rfl⟩
set_option maxHeartbeats 1000000 in
theorem pending_any (p : Nat) (d : Dsk) (F : Nat → Prop) (w : World) (h : DiskR w p d F) :
    Calls Try.prog 19 #[.pointer (some ⟨p, 0, none⟩)] w fun e w' => e = .returned (.int .i64 d.pend.length) ∧ w = w' := by
  obtain ⟨ok, lt, dv, pv, xs, ys, hp, hb, hd, hdF, hq, hqF, hDu, hPe⟩ := h
  obtain ⟨aq, cq, rfl, hc4, hc5, hc6⟩ := own_form hq
  have c1 := (hb.cell 1).trans rfl
  clear hd hq hdF hqF hDu hPe hb lt hc6
  go_enter Try.func19, Try.ntmps19
  go_wp2
  go_ret
  exact ⟨rfl, rfl⟩

def Elems (w : World) (a : Option Addr) (len : Nat) (zs : List Int) : Prop :=
  ∀ i, i < len → ∃ b off, a = some ⟨b, off, none⟩ ∧ b < w.heap.size ∧ w.cell? ⟨b, off + i, none⟩ = some (.int .i64 (zs.getD i 0))
theorem elems_up {w w' : World} {a : Option Addr} {len : Nat} {zs : List Int} (h : Elems w a len zs) (hb : Up w w') : Elems w' a len zs := fun i hi => by
  obtain ⟨b, off, ha, hlt, hc⟩ := h i hi
  exact ⟨b, off, ha, by have := hb.size; omega, (hb.cell (p := ⟨b, off + i, none⟩) hlt).trans hc⟩
theorem elems_of {w : World} {a : Option Addr} {len cap : Nat} {zs : List Int} (h : (a = none ∧ len = 0 ∧ cap = 0 ∧ zs = []) ∨
  ∃ x, a = some x ∧ len ≤ cap ∧ cap ≤ maxLen ∧ zs.length = cap ∧ (∀ i, i < zs.length → w.cell? (x.add i) = some (.int .i64 (zs.getD i 0))) ∧ ∀ n ∈ zs, (Lit.int .i64 n).wf = true) :
    Elems w a len zs ∧ len ≤ cap ∧ cap ≤ 9223372036854775807 := by
  rcases h with ⟨rfl, rfl, rfl, rfl⟩ | ⟨x, rfl, hl, hm, hz, hcell, hwz⟩
  · exact ⟨fun i hi => by omega, by omega, by omega⟩
  · refine ⟨fun i hi => ?_, hl, by unfold maxLen at hm; exact hm⟩
    have hc := hcell i (by omega)
    obtain ⟨b, off, spot⟩ := x
    have h0 := hcell 0 (by omega)
    have hspot : spot = none := by simpa [Addr.add] using World.cell?_spot h0
    subst hspot
    have hc' : w.cell? ⟨b, off + i, none⟩ = some (.int .i64 (zs.getD i 0)) := by
      by_cases e : i = 0
      · subst e; simpa [Addr.add] using hc
      · simpa [Addr.add, e] using hc
    refine ⟨b, off, rfl, ?_, hc'⟩
    unfold World.cell? at hc'
    rcases Nat.lt_or_ge b w.heap.size with h | h
    · exact h
    · simp [Array.getElem?_eq_none h] at hc'
/-- A byte slice that a text builds in place. -/
theorem bytes_new (w : World) (l : List Int) (hl : l.length ≤ 1000000) : Bytes (w.alloc (.cells (bc l).toArray 5)) (.slice (some ⟨w.heap.size, 0, none⟩) l.length l.length) l :=
  ⟨_, l.length, rfl, Nat.le_refl _, by omega, (fun h => by cases h), fun i hi => ⟨w.heap.size, 0, rfl, by rw [Nat.mul_one, Nat.zero_add]; exact At.new w _ _ i _ (by simp [hi])⟩⟩
end Go.Proofs.Ytmaeeidaegigcaa.Dk
