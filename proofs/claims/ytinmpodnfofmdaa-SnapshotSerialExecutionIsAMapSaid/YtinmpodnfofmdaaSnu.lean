/- The snapshot workload, plain. -/
import Derived.Test.YtinmpodnfofmdaaSnr
namespace Go.Proofs.Ytinmpodnfofmdaa.Sn
open Go Go.RowKit Hp So
open Mv (Val PC PV rowC rowC_one fm_len fm_take fm_drop fm_get fm_set fm_one RowIn StR Srt SOk pos has fx_lt fx_up ty_chg has_pos pos_le vacuumL cloneR latL cnt addL rowV kA row_any)
set_option linter.unusedVariables false

def msum (l : List Tr) : Nat := (l.map fun t => t.w.length).sum
def mass (d : Db) : Nat := cnt d.st + msum d.act
theorem msum_app (a b : List Tr) : msum (a ++ b) = msum a + msum b := by unfold msum; rw [List.map_append, List.sum_append]
theorem msum_cons (t : Tr) (b : List Tr) : msum (t :: b) = t.w.length + msum b := by unfold msum; rw [List.map_cons, List.sum_cons]
theorem msum_at {l : List Tr} {i : Nat} (hi : i < l.length) : msum l = msum (l.take i) + l[i].w.length + msum (l.drop (i + 1)) := by
  conv => lhs; rw [← List.take_append_drop i l, List.drop_eq_getElem_cons hi, msum_app, msum_cons]
  omega
theorem msum_erase {l : List Tr} {i : Nat} (hi : i < l.length) : msum (l.eraseIdx i) + l[i].w.length = msum l := by
  rw [List.eraseIdx_eq_take_drop_succ, msum_app, msum_at hi]
  omega
theorem msum_set {l : List Tr} {i : Nat} (hi : i < l.length) (t : Tr) : msum (l.set i t) + l[i].w.length = msum l + t.w.length := by
  rw [List.set_eq_take_append_cons_drop, if_pos hi, msum_app, msum_cons, msum_at hi]
  omega
theorem mass_beg (d : Db) : mass (begD d) = mass d := by
  show cnt d.st + msum (d.act ++ [_]) = cnt d.st + msum d.act
  rw [msum_app, msum_cons]
  rfl
theorem mass_fin {d : Db} (ok : DOk d) {id : Int} {t : Tr} (h : tr d id = some t) : mass (finI d id) + t.w.length ≤ mass d := by
  obtain ⟨_, hi, e, _⟩ := tr_at h
  have h1 := msum_erase hi
  rw [e] at h1
  have h2 := (fin_ok ok (tidx d.act id).toNat).2
  show cnt (finD d _).st + msum (d.act.eraseIdx _) + _ ≤ cnt d.st + msum d.act
  omega
theorem mass_put {d : Db} (ok : DOk d) {id : Int} {t : Tr} (h : tr d id = some t) (k : ByteArray) (x : Wr) : mass (putW d id (wput t.w k x)) ≤ mass d + 1 := by
  obtain ⟨_, hi, e, hid, _⟩ := tr_at h
  have es := set_map ok.ids hi (wput t.w k x)
  have h1 := msum_set hi ⟨d.act[(tidx d.act id).toNat].id, d.act[(tidx d.act id).toNat].start, wput t.w k x⟩
  rw [es, e, hid] at h1
  have h2 := (wput_pos t.w k x).2
  show cnt d.st + msum (d.act.map _) ≤ cnt d.st + msum d.act + 1
  have h3 : msum (d.act.map fun t_1 => if t_1.id = id then (⟨t_1.id, t_1.start, wput t.w k x⟩ : Tr) else t_1) + t.w.length = msum d.act + (wput t.w k x).length := h1
  omega
/-- The workload's state: m bounds the writes and the clock, l the numbers given out. -/
structure WInv (d : Db) (m l : Nat) (ids : List Int) : Prop where
  len : ids.length = 4
  mass : mass d ≤ m
  clock : d.clock ≤ m
  last : d.last ≤ l
  num : d.act.length = ids.countP fun x => decide (x ≠ 0)
  act : ∀ q (h : q < ids.length), ids[q] ≠ 0 → ∃ t, tr d ids[q] = some t
  inj : ∀ q r (h : q < ids.length) (h2 : r < ids.length), ids[q] ≠ 0 → ids[q] = ids[r] → q = r
theorem WInv.four {d : Db} {m l : Nat} {ids : List Int} (h : WInv d m l ids) : d.act.length ≤ 4 := by
  rw [h.num, ← h.len]
  exact List.countP_le_length
theorem WInv.init : WInv db0 0 0 [0, 0, 0, 0] := ⟨rfl, Nat.le_refl _, Int.le_refl _, Int.le_refl _, rfl, fun q h e => by
  have : ∀ x ∈ [(0 : Int), 0, 0, 0], x = 0 := by simp
  exact absurd (this _ (List.getElem_mem h)) e, fun q r h _ e _ => by
  have : ∀ x ∈ [(0 : Int), 0, 0, 0], x = 0 := by simp
  exact absurd (this _ (List.getElem_mem h)) e⟩
theorem WInv.mono {d : Db} {m m' l l' : Nat} {ids : List Int} (h : WInv d m l ids) (hm : m ≤ m') (hl : l ≤ l') : WInv d m' l' ids := ⟨h.len, Nat.le_trans h.mass hm, by have := h.clock; omega, by have := h.last; omega, h.num, h.act, h.inj⟩
theorem w_beg {d : Db} {m l : Nat} {ids : List Int} (ok : DOk d) (h : WInv d m l ids) {q : Nat} (hq : q < ids.length) (h0 : ids[q] = 0) : WInv (begD d) m (l + 1) (ids.set q (d.last + 1)) := by
  have hl := h.last
  have hl0 := ok.last
  have old : ∀ r (hr : r < ids.length), ids[r] ≠ 0 → ids[r] ≠ d.last + 1 := fun r hr hn e => by
    obtain ⟨t, ht⟩ := h.act r hr hn
    obtain ⟨_, _, _, hid, hm⟩ := tr_at ht
    have := (ok.idl t hm).2
    omega
  refine ⟨by rw [List.length_set]; exact h.len, by rw [mass_beg]; exact h.mass, h.clock, by show d.last + 1 ≤ _; omega, ?_, fun r hr hn => ?_, fun r s hr hs hn he => ?_⟩
  · show (d.act ++ [_]).length = _
    rw [List.length_append, List.countP_set hq, h0, h.num, if_neg (by simp), if_pos (by simp; omega)]
    rfl
  · rw [List.getElem_set] at hn ⊢
    split at hn
    · rename_i e; subst e
      rw [if_pos rfl]
      exact ⟨_, by rw [tr_beg ok, if_pos rfl]⟩
    · rename_i e
      have hr' : r < ids.length := by simpa using hr
      rw [if_neg e, tr_beg ok, if_neg (old r hr' hn)]
      exact h.act r hr' hn
  · have hr' : r < ids.length := by simpa using hr
    have hs' : s < ids.length := by simpa using hs
    rw [List.getElem_set] at hn he
    rw [List.getElem_set] at he
    split at he <;> split at he
    · rename_i a b; omega
    · rename_i a b
      rcases Decidable.em (ids[s] = 0) with e | e
      · omega
      · exact absurd he.symm (old s hs' e)
    · rename_i a b
      rw [if_neg a] at hn
      exact absurd he (old r hr' hn)
    · rename_i a b
      rw [if_neg a] at hn
      exact h.inj r s hr' hs' hn he
theorem w_buf {d : Db} {m l : Nat} {ids : List Int} (ok : DOk d) (h : WInv d m l ids) {q : Nat} (hq : q < ids.length) (h0 : ids[q] ≠ 0) {k : ByteArray} {x : Wr} (hk : k.size ≤ 24) (hr : x.row.length ≤ 6) : WInv (bufP d ids[q] k x).1 (m + 1) l ids := by
  obtain ⟨t, ht⟩ := h.act q hq h0
  rw [buf_tr ok ht hk hr]
  split
  · exact h.mono (by omega) (by omega)
  · have hc := h.clock
    refine ⟨h.len, by have := mass_put ok ht k x; have := h.mass; show mass (putW _ _ _) ≤ _; omega, by show d.clock ≤ _; omega, h.last, by show (d.act.map _).length = _; rw [List.length_map]; exact h.num, fun r hr hn => ?_, h.inj⟩
    obtain ⟨t', ht'⟩ := h.act r hr hn
    rw [tr_putW, ht']
    exact ⟨_, rfl⟩
theorem w_fin {d : Db} {m l : Nat} {ids : List Int} (ok : DOk d) (h : WInv d m l ids) {q : Nat} (hq : q < ids.length) (h0 : ids[q] ≠ 0) : WInv (finI d ids[q]) m l (ids.set q 0) := by
  obtain ⟨t, ht⟩ := h.act q hq h0
  obtain ⟨_, hi, _⟩ := tr_at ht
  refine ⟨by rw [List.length_set]; exact h.len, by have := mass_fin ok ht; have := h.mass; omega, h.clock, h.last, ?_, fun r hr hn => ?_, fun r s hr hs hn he => ?_⟩
  · show (d.act.eraseIdx _).length = _
    rw [List.length_eraseIdx_of_lt hi, List.countP_set hq, h.num, if_pos (by simpa using h0), if_neg (by simp)]
    rfl
  · rw [List.getElem_set] at hn ⊢
    split at hn
    · exact absurd rfl hn
    · rename_i e
      have hr' : r < ids.length := by simpa using hr
      rw [if_neg e, tr_fin ok ht, if_neg fun e2 => e (h.inj r q hr' hq hn e2).symm]
      exact h.act r hr' hn
  · have hr' : r < ids.length := by simpa using hr
    have hs' : s < ids.length := by simpa using hs
    rw [List.getElem_set] at hn he
    split at hn
    · exact absurd rfl hn
    · rename_i a
      rw [if_neg a, List.getElem_set] at he
      split at he
      · exact absurd he hn
      · exact h.inj r s hr' hs' hn he
theorem w_com {d : Db} {m l : Nat} {ids : List Int} (ok : DOk d) (h : WInv d m l ids) (hm : m ≤ 400) {q : Nat} (hq : q < ids.length) (h0 : ids[q] ≠ 0) : WInv (comP d ids[q]).1 (m + 1) l (ids.set q 0) := by
  obtain ⟨t, ht⟩ := h.act q hq h0
  have hf := w_fin ok h hq h0
  have hms := h.mass
  have hmf := mass_fin ok ht
  have hlen : cnt d.st + t.w.length ≤ mass d := by
    obtain ⟨_, hi, e, _⟩ := tr_at ht
    have := msum_erase hi
    rw [e] at this
    unfold mass
    omega
  rw [com_tr ht]
  split
  · exact hf.mono (by omega) (by omega)
  · rw [if_neg (by omega)]
    split
    · exact hf.mono (by omega) (by omega)
    · have hc := h.clock
      have := putAll_cnt (finI d ids[q]).hz (d.clock + 1) t.w (finI d ids[q]).st
      refine ⟨hf.len, ?_, by show d.clock + 1 ≤ _; omega, hf.last, hf.num, hf.act, hf.inj⟩
      unfold mass at hmf hms ⊢
      show cnt (putAll _ _ _ _) + msum (finI d ids[q]).act ≤ _
      omega
theorem w_rol {d : Db} {m l : Nat} {ids : List Int} (ok : DOk d) (h : WInv d m l ids) {q : Nat} (hq : q < ids.length) (h0 : ids[q] ≠ 0) : (rolP d ids[q]).2 = 0 ∧ WInv (rolP d ids[q]).1 m l (ids.set q 0) := by
  obtain ⟨t, ht⟩ := h.act q hq h0
  rw [rol_tr ht]
  exact ⟨rfl, w_fin ok h hq h0⟩
end Go.Proofs.Ytinmpodnfofmdaa.Sn
