/- The snapshot database: a transaction by its number (plain). -/
import Derived.Test.YtnbhdpmhgamjfaaSnk
namespace Go.Proofs.Ytnbhdpmhgamjfaa.Sn
open Go Go.RowKit Hp So
open Mv (Val PC PV rowC fm_len fm_take fm_drop fm_get fm_set fm_one RowIn StR Srt SOk pos has fx_lt fx_up ty_chg has_pos pos_le cnt addL adL latL vacuumL vacL vac_mem cnt_vac lastTs getD_mem)
set_option linter.unusedVariables false

def tr (d : Db) (id : Int) : Option Tr := d.act.find? fun t => decide (t.id = id)
theorem set_map {l : List Tr} (hp : l.Pairwise fun a b => a.id < b.id) {i : Nat} (hi : i < l.length) (w : WL) : l.set i ⟨l[i].id, l[i].start, w⟩ = l.map fun t => if t.id = l[i].id then ⟨t.id, t.start, w⟩ else t := by
  refine List.ext_getElem (by simp) fun j h1 h2 => ?_
  have hj : j < l.length := by simpa using h1
  rw [List.getElem_set, List.getElem_map]
  split
  · rename_i e; subst e; rw [if_pos rfl]
  · rename_i e
    rw [if_neg]
    rcases Nat.lt_or_ge i j with h3 | h3
    · have := List.pairwise_iff_getElem.1 hp i j hi hj h3; omega
    · have := List.pairwise_iff_getElem.1 hp j i hj hi (by omega); omega
theorem erase_filter {l : List Tr} (hp : l.Pairwise fun a b => a.id < b.id) {i : Nat} (hi : i < l.length) : l.eraseIdx i = l.filter fun t => decide (t.id ≠ l[i].id) := by
  induction l generalizing i with
  | nil => simp at hi
  | cons a l ih =>
    obtain ⟨h1, h2⟩ := List.pairwise_cons.1 hp
    cases i with
    | zero =>
      simp only [List.eraseIdx_cons_zero, List.getElem_cons_zero]
      rw [List.filter_cons, if_neg (by simp), List.filter_eq_self.2]
      intro t ht
      have := h1 t ht
      simp; omega
    | succ i =>
      have hi' : i < l.length := by simpa using hi
      simp only [List.eraseIdx_cons_succ, List.getElem_cons_succ]
      have := h1 _ (List.getElem_mem hi')
      rw [List.filter_cons, if_pos (by simp; omega), ih h2 hi']
theorem find_map {l : List Tr} {id id' : Int} {w : WL} : (l.map fun t => if t.id = id then (⟨t.id, t.start, w⟩ : Tr) else t).find? (fun t => decide (t.id = id')) = (l.find? fun t => decide (t.id = id')).map fun t => if t.id = id then ⟨t.id, t.start, w⟩ else t := by
  rw [List.find?_map]
  congr 2
  funext t
  simp only [Function.comp]
  split <;> rfl
theorem find_filter {l : List Tr} {id id' : Int} : (l.filter fun t => decide (t.id ≠ id)).find? (fun t => decide (t.id = id')) = if id' = id then none else l.find? fun t => decide (t.id = id') := by
  induction l with
  | nil => simp
  | cons a l ih =>
    rw [List.filter_cons]
    by_cases h : a.id = id
    · rw [if_neg (by simp [h]), ih]
      split
      · rfl
      · rename_i h2; rw [List.find?_cons_of_neg (by simp [h]; exact fun e => h2 e.symm)]
    · rw [if_pos (by simp [h])]
      by_cases h2 : a.id = id'
      · rw [List.find?_cons_of_pos (by simp [h2]), List.find?_cons_of_pos (by simp [h2]), if_neg (fun e => h (h2.trans e))]
      · rw [List.find?_cons_of_neg (by simp [h2]), ih, List.find?_cons_of_neg (by simp [h2])]
theorem tr_at {d : Db} {id : Int} {t : Tr} (h : tr d id = some t) : 0 ≤ tidx d.act id ∧ ∃ hi : (tidx d.act id).toNat < d.act.length, d.act[(tidx d.act id).toNat] = t ∧ t.id = id ∧ t ∈ d.act := by
  have hs := h
  unfold tr at h
  have hid : t.id = id := by have := List.find?_some h; simpa using this
  have hm := List.mem_of_find?_eq_some h
  obtain ⟨_, j, hj, e, hb⟩ := List.find?_eq_some_iff_getElem.1 h
  have ei : tidx d.act id = (j : Int) := idx_hit hj (by rw [e]; simpa using hid) fun i hi hij => by simpa using hb i hij
  rw [ei]
  exact ⟨by omega, hj, e, hid, hm⟩
theorem tr_none {d : Db} {id : Int} (h : tr d id = none) : tidx d.act id < 0 := by
  unfold tr at h
  rw [List.find?_eq_none] at h
  unfold tidx
  rw [idx_miss (fun j hj => by simpa using h _ (List.getElem_mem hj))]
  decide
theorem tr_none_of {d : Db} (ok : DOk d) {id : Int} (h : id < 1 ∨ d.last < id) : tr d id = none := by
  unfold tr
  rw [List.find?_eq_none]
  intro t ht
  have := ok.idl t ht
  simp; omega
theorem tr_getD {d : Db} {id : Int} {t : Tr} (h : tr d id = some t) : d.act.getD (tidx d.act id).toNat ⟨0, 0, []⟩ = t := by
  obtain ⟨_, hi, e, _⟩ := tr_at h
  simp [List.getD, hi, e]
def putW (d : Db) (id : Int) (l : WL) : Db := { d with act := d.act.map fun t => if t.id = id then ⟨t.id, t.start, l⟩ else t }
def finI (d : Db) (id : Int) : Db := finD d (tidx d.act id).toNat
theorem buf_tr {d : Db} (ok : DOk d) {id : Int} {t : Tr} (ht : tr d id = some t) {k : ByteArray} {x : Wr} (hk : k.size ≤ 24) (hr : x.row.length ≤ 6) :
    bufP d id k x = if has t.w k = false ∧ t.w.length = 40 then (d, 18) else (putW d id (wput t.w k x), 0) := by
  obtain ⟨h0, hi, e, hid, hm⟩ := tr_at ht
  unfold bufP
  rw [if_neg (show ¬ tidx d.act id < 0 by omega), if_neg (show ¬ (24 < k.size ∨ 6 < x.row.length) by omega), tr_getD ht]
  have es : setW d (tidx d.act id).toNat t (wput t.w k x) = putW d id (wput t.w k x) := by
    have := set_map ok.ids hi (wput t.w k x)
    unfold setW putW
    rw [e, hid] at this
    rw [hid, this]
  rw [es]
theorem tr_putW (d : Db) (id id' : Int) (l : WL) : tr (putW d id l) id' = (tr d id').map fun t => if t.id = id then ⟨t.id, t.start, l⟩ else t := find_map
theorem tr_put_same {d : Db} {id : Int} {t : Tr} (h : tr d id = some t) (l : WL) : tr (putW d id l) id = some ⟨id, t.start, l⟩ := by
  obtain ⟨_, _, _, hid, _⟩ := tr_at h
  rw [tr_putW, h, Option.map_some, if_pos hid, hid]
theorem tr_put_other {d : Db} {id id' : Int} (h : id' ≠ id) (l : WL) : tr (putW d id l) id' = tr d id' := by
  rw [tr_putW]
  cases ht : tr d id' with
  | none => rfl
  | some t =>
    obtain ⟨_, _, _, hid, _⟩ := tr_at ht
    rw [Option.map_some, if_neg (by rw [hid]; exact h)]
theorem tr_beg {d : Db} (ok : DOk d) (id' : Int) : tr (begD d) id' = if id' = d.last + 1 then some ⟨d.last + 1, d.clock, []⟩ else tr d id' := by
  show (d.act ++ [_]).find? _ = _
  rw [List.find?_append]
  by_cases h : id' = d.last + 1
  · have := tr_none_of ok (id := id') (.inr (by omega))
    unfold tr at this
    rw [this, if_pos h, List.find?_cons_of_pos (by simp [h])]
    rfl
  · rw [if_neg h, List.find?_cons_of_neg (by simp; omega)]
    unfold tr
    cases d.act.find? fun t => decide (t.id = id') <;> rfl
theorem tr_fin {d : Db} (ok : DOk d) {id : Int} {t : Tr} (h : tr d id = some t) (id' : Int) : tr (finI d id) id' = if id' = id then none else tr d id' := by
  obtain ⟨_, hi, e, hid, _⟩ := tr_at h
  show (d.act.eraseIdx _).find? _ = _
  rw [erase_filter ok.ids hi, e, hid]
  exact find_filter
theorem com_tr {d : Db} {id : Int} {t : Tr} (ht : tr d id = some t) :
    comP d id = if conf d t = true then (finI d id, 0, 13) else if 400 < cnt d.st + t.w.length then (d, 0, 18) else if t.w.length = 0 then (finI d id, d.clock, 0)
      else ({ finI d id with clock := d.clock + 1, st := putAll (finI d id).st (finI d id).hz (d.clock + 1) t.w }, d.clock + 1, 0) := by
  obtain ⟨h0, _⟩ := tr_at ht
  unfold comP
  rw [if_neg (show ¬ tidx d.act id < 0 by omega), tr_getD ht]
  rfl
theorem rol_tr {d : Db} {id : Int} {t : Tr} (ht : tr d id = some t) : rolP d id = (finI d id, 0) := by
  obtain ⟨h0, _⟩ := tr_at ht
  unfold rolP
  rw [if_neg (show ¬ tidx d.act id < 0 by omega)]
  rfl
theorem rol_none {d : Db} {id : Int} (ht : tr d id = none) : rolP d id = (d, 4) := by
  unfold rolP
  rw [if_pos (tr_none ht)]
/-- No conflict where nothing is newer than the transaction's start. -/
theorem lat_le {l : List PC} {c : Int} (hc : 0 ≤ c) (h : ∀ x ∈ l, ∀ v ∈ x.2, v.ts ≤ c) (k : ByteArray) : latL l k ≤ c := by
  unfold latL
  split
  · rename_i hh
    obtain ⟨hp, e, _⟩ := getD_mem hh
    rw [e]
    unfold lastTs
    cases hl : l[pos l k].2.getLast? with
    | none => rw [List.getLastD_eq_getLast?, hl]; exact hc
    | some v => rw [List.getLastD_eq_getLast?, hl]; exact h _ (List.getElem_mem hp) v (List.mem_of_getLast? hl)
  · exact hc
theorem conf_solo {d : Db} (ok : DOk d) {t : Tr} (h : d.clock ≤ t.start) : conf d t = false := by
  unfold conf
  rw [List.any_eq_false]
  intro x hx
  have := lat_le ok.clock.1 ok.ts x.1
  simp; omega
end Go.Proofs.Ytnbhdpmhgamjfaa.Sn
