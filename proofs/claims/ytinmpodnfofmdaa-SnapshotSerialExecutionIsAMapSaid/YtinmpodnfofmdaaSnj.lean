/- The snapshot database: a transaction's writes are written anew. -/
import Derived.Test.YtinmpodnfofmdaaSni
namespace Go.Proofs.Ytinmpodnfofmdaa.Sn
open Go Go.RowKit Hp So
open Mv (Val PC PV rowC fm_len fm_take fm_drop fm_get fm_set fm_one RowIn StR Srt pos has fx_lt fx_up ty_chg has_pos pos_le)
set_option linter.unusedVariables false

def setW (d : Db) (i : Nat) (t : Tr) (l : WL) : Db := { d with act := d.act.set i ⟨t.id, t.start, l⟩ }
def bufP (d : Db) (id : Int) (k : ByteArray) (x : Wr) : Db × Int :=
  if tidx d.act id < 0 then (d, 4)
  else if 24 < k.size ∨ 6 < x.row.length then (d, 2)
  else if has (d.act.getD (tidx d.act id).toNat ⟨0, 0, []⟩).w k = false ∧ (d.act.getD (tidx d.act id).toNat ⟨0, 0, []⟩).w.length = 40 then (d, 18)
  else (setW d (tidx d.act id).toNat (d.act.getD (tidx d.act id).toNat ⟨0, 0, []⟩) (wput (d.act.getD (tidx d.act id).toNat ⟨0, 0, []⟩).w k x), 0)
theorem wput_mem {l : WL} {k : ByteArray} {x : Wr} {y : ByteArray × Wr} (h : y ∈ wput l k x) : y ∈ l ∨ y = (k, x) := by
  unfold wput at h
  split at h
  · rcases List.mem_or_eq_of_mem_set h with h | h
    · exact .inl h
    · exact .inr h
  · rcases List.mem_append.1 h with h | h
    · exact .inl (List.mem_of_mem_take h)
    · rcases List.mem_cons.1 h with h | h
      · exact .inr h
      · exact .inl (List.mem_of_mem_drop h)
theorem wput_srt {l : WL} (h : Srt l) (k : ByteArray) (x : Wr) : Srt (wput l k x) := by
  unfold wput
  split
  · rename_i hh
    obtain ⟨hp, he⟩ := has_pos hh
    have := h.set (pos l k) hp x
    rwa [he] at this
  · rename_i hh
    exact h.ins k x (by simpa using hh)
theorem wput_len {l : WL} {k : ByteArray} {x : Wr} (h : ¬ (has l k = false ∧ l.length = 40)) (hl : l.length ≤ 40) : (wput l k x).length ≤ 40 := by
  unfold wput
  have hp := pos_le l k
  split
  · simpa using hl
  · rename_i hh
    have : l.length ≠ 40 := fun e => h ⟨by simpa using hh, e⟩
    simp only [List.length_append, List.length_take, List.length_cons, List.length_drop]
    omega
theorem setW_ok {d : Db} (h : DOk d) {i : Nat} (hi : i < d.act.length) {l : WL} (hs : Srt l) (hl : l.length ≤ 40) (hk : ∀ x ∈ l, x.1.size ≤ 24 ∧ x.2.row.length ≤ 6) : DOk (setW d i d.act[i] l) := by
  have mem : ∀ t ∈ d.act.set i ⟨d.act[i].id, d.act[i].start, l⟩, t ∈ d.act ∨ t = ⟨d.act[i].id, d.act[i].start, l⟩ := fun t ht => List.mem_or_eq_of_mem_set ht
  have hm := List.getElem_mem hi
  refine ⟨h.st, h.hz, h.clock, h.last, by show (d.act.set _ _).length ≤ 60; rw [List.length_set]; exact h.act, ?_, ?_, ?_, ?_, ?_, ?_, h.ts⟩
  · refine List.pairwise_iff_getElem.2 fun a b ha hb hab => ?_
    have ha' : a < d.act.length := by simpa [setW] using ha
    have hb' : b < d.act.length := by simpa [setW] using hb
    have := List.pairwise_iff_getElem.1 h.ids a b ha' hb' hab
    simp only [setW, List.getElem_set]
    split <;> split
    · omega
    · rename_i h1 h2; subst h1; exact this
    · rename_i h1 h2; subst h2; exact this
    · exact this
  · intro t ht
    rcases mem t ht with ht | rfl
    · exact h.idl t ht
    · exact h.idl d.act[i] hm
  · intro t ht
    rcases mem t ht with ht | rfl
    · exact h.start t ht
    · exact h.start d.act[i] hm
  · intro t ht
    rcases mem t ht with ht | rfl
    · exact h.srt t ht
    · exact hs
  · intro t ht
    rcases mem t ht with ht | rfl
    · exact h.len t ht
    · exact hl
  · intro t ht x hx
    rcases mem t ht with ht | rfl
    · exact h.key t ht x hx
    · exact hk x hx
theorem DbP.wr {w w' : World} {p q : Nat} {d : Db} {F G : Nat → Prop} {av wv' : Value} {ts : List MT} {ws' : List MW} {i : Nat} (h : DbP w p q d F G av ts) (hi : i < ts.length) (hi2 : i < d.act.length) (hC : Chg (fun j => ts[i].wv.ownBlock = some j ∨ av.ownBlock = some j) w w')
    (hW : w'.ownsRow 0 105 3 wv' ws'.length (mwC ws')) (hA : w'.ownsRow 0 102 3 av ts.length (mtC (ts.set i ⟨ts[i].id, ts[i].start, wv', ws'⟩)))
    (hat : ∀ k, wv'.ownBlock = some k → ts[i].wv.ownBlock = some k ∨ w.heap.size ≤ k) (hrow : ∀ x ∈ ws', x ∈ ts[i].ws ∨ RowIn w F x.rv x.row) (hok : DOk (setW d i d.act[i] (ws'.map erW))) :
    DbP w' p q (setW d i d.act[i] (ws'.map erW)) (Fx F w w') G av (ts.set i ⟨ts[i].id, ts[i].start, wv', ws'⟩) ∧ (∀ k, ts[i].wv.ownBlock = some k ∨ av.ownBlock = some k → F k) := by
  have hm := List.getElem_mem hi
  have mem : ∀ t ∈ ts.set i ⟨ts[i].id, ts[i].start, wv', ws'⟩, t ∈ ts ∨ t = ⟨ts[i].id, ts[i].start, wv', ws'⟩ := fun t ht => List.mem_or_eq_of_mem_set ht
  have hS : ∀ k, (ts[i].wv.ownBlock = some k ∨ av.ownBlock = some k) → F k := fun k hk => by
    rcases hk with hk | hk
    · exact h.wrF _ hm k hk
    · exact h.actF k hk
  have nS : ∀ k T, Ty w k T → T ≠ 102 → T ≠ 105 → ¬ (ts[i].wv.ownBlock = some k ∨ av.ownBlock = some k) := fun k T ht h1 h2 e => by
    rcases e with e | e
    · exact ht.ne h2 ((own_ty (h.wrs _ hm)) k e).1
    · exact ht.ne h1 ((own_ty h.act) k e).1
  have hei : erT ts[i] = d.act[i] := by
    have e := h.er
    have e2 : (ts.map erT)[i]? = d.act[i]? := by rw [e]
    rw [List.getElem?_map, List.getElem?_eq_getElem hi, List.getElem?_eq_getElem hi2] at e2
    simpa using e2
  have far : ∀ j (hj : j < ts.length), j ≠ i → ∀ k, ts[j].wv.ownBlock = some k → ¬ (ts[i].wv.ownBlock = some k) := fun j hj hji k hk e => by
    rcases Nat.lt_or_ge i j with h1 | h1
    · exact List.pairwise_iff_getElem.1 h.wrd i j hi hj h1 k e hk
    · exact List.pairwise_iff_getElem.1 h.wrd j i hj hi (by omega) k hk e
  refine ⟨⟨?_, hok, fx_lt h.lt hC.size, fun k hk hg => ?_, .inl h.fp, h.blk.chg hC (nS _ _ (blk_ty h.blk) (by decide) (by decide)), h.st.chg hC fun k hk e => h.dis k (hS k e) hk, by rw [List.length_set]; exact hA, fun k hk => .inl (h.actF k hk), fun t ht => ?_, fun t ht k hk => ?_, ?_, fun t ht x hx => ?_⟩, hS⟩
  · show _ = d.act.set i _
    rw [List.map_set, h.er, ← hei]
    rfl
  · rcases hk with hk | hk
    · exact h.dis k hk hg
    · have := h.st.lt k hg; omega
  · obtain ⟨j, hj, rfl⟩ := List.getElem_of_mem ht
    rw [List.getElem_set]
    split
    · exact hW
    · rename_i hij
      have hj' : j < ts.length := by simpa using hj
      refine own_chg (h.wrs _ (List.getElem_mem hj')) hC fun k hk e => ?_
      rcases e with e | e
      · exact far j hj' (fun e2 => hij e2.symm) k hk e
      · exact (((own_ty (h.wrs _ (List.getElem_mem hj'))) _ hk).1).ne (by decide) ((own_ty h.act) k e).1
  · obtain ⟨j, hj, rfl⟩ := List.getElem_of_mem ht
    rw [List.getElem_set] at hk
    split at hk
    · rcases hat k hk with e | e
      · exact .inl (h.wrF _ hm k e)
      · exact .inr ⟨e, own_lt hW k hk⟩
    · have hj' : j < ts.length := by simpa using hj
      exact .inl (h.wrF _ (List.getElem_mem hj') k hk)
  · have farn : ∀ j (hj : j < ts.length), j ≠ i → ∀ k, wv'.ownBlock = some k → ts[j].wv.ownBlock ≠ some k := fun j hj hji k hk e => by
      rcases hat k hk with e1 | e1
      · exact far j hj hji k e e1
      · have := own_lt (h.wrs _ (List.getElem_mem hj)) k e; omega
    refine List.pairwise_iff_getElem.2 fun a b ha hb hab k hk => ?_
    have ha' : a < ts.length := by simpa using ha
    have hb' : b < ts.length := by simpa using hb
    rw [List.getElem_set] at hk ⊢
    split at hk <;> split
    · omega
    · rename_i h1 h2; exact farn b hb' (by omega) k hk
    · rename_i h1 h2; exact fun e => farn a ha' (by omega) k e hk
    · exact List.pairwise_iff_getElem.1 h.wrd a b ha' hb' hab k hk
  · have keep : ∀ {rv row}, RowIn w F rv row → RowIn w' (Fx F w w') rv row := fun hr => hr.chg hC fun k hk ht => ⟨nS k _ ht (by decide) (by decide), .inl hk⟩
    rcases mem t ht with ht | rfl
    · exact keep (h.rws t ht x hx)
    · rcases hrow x hx with hx | hx
      · exact keep (h.rws _ hm x hx)
      · exact keep hx
end Go.Proofs.Ytinmpodnfofmdaa.Sn
