/- joined: Snj, Snk -/
import Derived.Test.YtnbhdpmhgamjfaaSni
/- The snapshot database: a transaction's writes are written anew. -/
namespace Go.Proofs.Ytnbhdpmhgamjfaa.Sn
open Go Go.RowKit Hp So
open Mv (Val PC PV rowC fm_len fm_take fm_drop fm_get fm_set fm_one RowIn StR Srt pos has fx_lt fx_up ty_chg has_pos pos_le)
set_option linter.unusedVariables false

def setW (d : Db) (i : Nat) (t : Tr) (l : WL) : Db := { d with act := d.act.set i ⟨t.id, t.start, l⟩ }
def bufP (d : Db) (id : Int) (k : ByteArray) (x : Wr) : Db × Int :=
  if tidx d.act id < 0 then (d, 4)
  else if 24 < k.size ∨ 6 < x.row.length then (d, 2)
  else if has (d.act.getD (tidx d.act id).toNat ⟨0, 0, []⟩).w k = false ∧ (d.act.getD (tidx d.act id).toNat ⟨0, 0, []⟩).w.length = 40 then (d, 18)
  else (setW d (tidx d.act id).toNat (d.act.getD (tidx d.act id).toNat ⟨0, 0, []⟩) (wput (d.act.getD (tidx d.act id).toNat ⟨0, 0, []⟩).w k x), 0)
theorem wput_mem {l : WL} {k : ByteArray} {x : Wr} {y : ByteArray × Wr} (h : y ∈ wput l k x) : y ∈ l ∨ y = (k, x) := by
  unfold wput at h
  split at h
  · rcases List.mem_or_eq_of_mem_set h with h | h
    · exact .inl h
    · exact .inr h
  · rcases List.mem_append.1 h with h | h
    · exact .inl (List.mem_of_mem_take h)
    · rcases List.mem_cons.1 h with h | h
      · exact .inr h
      · exact .inl (List.mem_of_mem_drop h)
theorem wput_srt {l : WL} (h : Srt l) (k : ByteArray) (x : Wr) : Srt (wput l k x) := by
  unfold wput
  split
  · rename_i hh
    obtain ⟨hp, he⟩ := has_pos hh
    have := h.set (pos l k) hp x
    rwa [he] at this
  · rename_i hh
    exact h.ins k x (by simpa using hh)
theorem wput_len {l : WL} {k : ByteArray} {x : Wr} (h : ¬ (has l k = false ∧ l.length = 40)) (hl : l.length ≤ 40) : (wput l k x).length ≤ 40 := by
  unfold wput
  have hp := pos_le l k
  split
  · simpa using hl
  · rename_i hh
    have : l.length ≠ 40 := fun e => h ⟨by simpa using hh, e⟩
    simp only [List.length_append, List.length_take, List.length_cons, List.length_drop]
    omega
theorem setW_ok {d : Db} (h : DOk d) {i : Nat} (hi : i < d.act.length) {l : WL} (hs : Srt l) (hl : l.length ≤ 40) (hk : ∀ x ∈ l, x.1.size ≤ 24 ∧ x.2.row.length ≤ 6) : DOk (setW d i d.act[i] l) := by
  have mem : ∀ t ∈ d.act.set i ⟨d.act[i].id, d.act[i].start, l⟩, t ∈ d.act ∨ t = ⟨d.act[i].id, d.act[i].start, l⟩ := fun t ht => List.mem_or_eq_of_mem_set ht
  have hm := List.getElem_mem hi
  refine ⟨h.st, h.hz, h.clock, h.last, by show (d.act.set _ _).length ≤ 60; rw [List.length_set]; exact h.act, ?_, ?_, ?_, ?_, ?_, ?_, h.ts⟩
  · refine List.pairwise_iff_getElem.2 fun a b ha hb hab => ?_
    have ha' : a < d.act.length := by simpa [setW] using ha
    have hb' : b < d.act.length := by simpa [setW] using hb
    have := List.pairwise_iff_getElem.1 h.ids a b ha' hb' hab
    simp only [setW, List.getElem_set]
    split <;> split
    · omega
    · rename_i h1 h2; subst h1; exact this
    · rename_i h1 h2; subst h2; exact this
    · exact this
  · intro t ht
    rcases mem t ht with ht | rfl
    · exact h.idl t ht
    · exact h.idl d.act[i] hm
  · intro t ht
    rcases mem t ht with ht | rfl
    · exact h.start t ht
    · exact h.start d.act[i] hm
  · intro t ht
    rcases mem t ht with ht | rfl
    · exact h.srt t ht
    · exact hs
  · intro t ht
    rcases mem t ht with ht | rfl
    · exact h.len t ht
    · exact hl
  · intro t ht x hx
    rcases mem t ht with ht | rfl
    · exact h.key t ht x hx
    · exact hk x hx
theorem DbP.wr {w w' : World} {p q : Nat} {d : Db} {F G : Nat → Prop} {av wv' : Value} {ts : List MT} {ws' : List MW} {i : Nat} (h : DbP w p q d F G av ts) (hi : i < ts.length) (hi2 : i < d.act.length) (hC : Chg (fun j => ts[i].wv.ownBlock = some j ∨ av.ownBlock = some j) w w')
    (hW : w'.ownsRow 0 73 3 wv' ws'.length (mwC ws')) (hA : w'.ownsRow 0 63 3 av ts.length (mtC (ts.set i ⟨ts[i].id, ts[i].start, wv', ws'⟩)))
    (hat : ∀ k, wv'.ownBlock = some k → ts[i].wv.ownBlock = some k ∨ w.heap.size ≤ k) (hrow : ∀ x ∈ ws', x ∈ ts[i].ws ∨ RowIn w F x.rv x.row) (hok : DOk (setW d i d.act[i] (ws'.map erW))) :
    DbP w' p q (setW d i d.act[i] (ws'.map erW)) (Fx F w w') G av (ts.set i ⟨ts[i].id, ts[i].start, wv', ws'⟩) ∧ (∀ k, ts[i].wv.ownBlock = some k ∨ av.ownBlock = some k → F k) := by
  have hm := List.getElem_mem hi
  have mem : ∀ t ∈ ts.set i ⟨ts[i].id, ts[i].start, wv', ws'⟩, t ∈ ts ∨ t = ⟨ts[i].id, ts[i].start, wv', ws'⟩ := fun t ht => List.mem_or_eq_of_mem_set ht
  have hS : ∀ k, (ts[i].wv.ownBlock = some k ∨ av.ownBlock = some k) → F k := fun k hk => by
    rcases hk with hk | hk
    · exact h.wrF _ hm k hk
    · exact h.actF k hk
  have nS : ∀ k T, Ty w k T → T ≠ 63 → T ≠ 73 → ¬ (ts[i].wv.ownBlock = some k ∨ av.ownBlock = some k) := fun k T ht h1 h2 e => by
    rcases e with e | e
    · exact ht.ne h2 ((own_ty (h.wrs _ hm)) k e).1
    · exact ht.ne h1 ((own_ty h.act) k e).1
  have hei : erT ts[i] = d.act[i] := by
    have e := h.er
    have e2 : (ts.map erT)[i]? = d.act[i]? := by rw [e]
    rw [List.getElem?_map, List.getElem?_eq_getElem hi, List.getElem?_eq_getElem hi2] at e2
    simpa using e2
  have far : ∀ j (hj : j < ts.length), j ≠ i → ∀ k, ts[j].wv.ownBlock = some k → ¬ (ts[i].wv.ownBlock = some k) := fun j hj hji k hk e => by
    rcases Nat.lt_or_ge i j with h1 | h1
    · exact List.pairwise_iff_getElem.1 h.wrd i j hi hj h1 k e hk
    · exact List.pairwise_iff_getElem.1 h.wrd j i hj hi (by omega) k hk e
  refine ⟨⟨?_, hok, fx_lt h.lt hC.size, fun k hk hg => ?_, .inl h.fp, h.blk.chg hC (nS _ _ (blk_ty h.blk) (by decide) (by decide)), h.st.chg hC fun k hk e => h.dis k (hS k e) hk, by rw [List.length_set]; exact hA, fun k hk => .inl (h.actF k hk), fun t ht => ?_, fun t ht k hk => ?_, ?_, fun t ht x hx => ?_⟩, hS⟩
  · show _ = d.act.set i _
    rw [List.map_set, h.er, ← hei]
    rfl
  · rcases hk with hk | hk
    · exact h.dis k hk hg
    · have := h.st.lt k hg; omega
  · obtain ⟨j, hj, rfl⟩ := List.getElem_of_mem ht
    rw [List.getElem_set]
    split
    · exact hW
    · rename_i hij
      have hj' : j < ts.length := by simpa using hj
      refine own_chg (h.wrs _ (List.getElem_mem hj')) hC fun k hk e => ?_
      rcases e with e | e
      · exact far j hj' (fun e2 => hij e2.symm) k hk e
      · exact (((own_ty (h.wrs _ (List.getElem_mem hj'))) _ hk).1).ne (by decide) ((own_ty h.act) k e).1
  · obtain ⟨j, hj, rfl⟩ := List.getElem_of_mem ht
    rw [List.getElem_set] at hk
    split at hk
    · rcases hat k hk with e | e
      · exact .inl (h.wrF _ hm k e)
      · exact .inr ⟨e, own_lt hW k hk⟩
    · have hj' : j < ts.length := by simpa using hj
      exact .inl (h.wrF _ (List.getElem_mem hj') k hk)
  · have farn : ∀ j (hj : j < ts.length), j ≠ i → ∀ k, wv'.ownBlock = some k → ts[j].wv.ownBlock ≠ some k := fun j hj hji k hk e => by
      rcases hat k hk with e1 | e1
      · exact far j hj hji k e e1
      · have := own_lt (h.wrs _ (List.getElem_mem hj)) k e; omega
    refine List.pairwise_iff_getElem.2 fun a b ha hb hab k hk => ?_
    have ha' : a < ts.length := by simpa using ha
    have hb' : b < ts.length := by simpa using hb
    rw [List.getElem_set] at hk ⊢
    split at hk <;> split
    · omega
    · rename_i h1 h2; exact farn b hb' (by omega) k hk
    · rename_i h1 h2; exact fun e => farn a ha' (by omega) k e hk
    · exact List.pairwise_iff_getElem.1 h.wrd a b ha' hb' hab k hk
  · have keep : ∀ {rv row}, RowIn w F rv row → RowIn w' (Fx F w w') rv row := fun hr => hr.chg hC fun k hk ht => ⟨nS k _ ht (by decide) (by decide), .inl hk⟩
    rcases mem t ht with ht | rfl
    · exact keep (h.rws t ht x hx)
    · rcases hrow x hx with hx | hx
      · exact keep (h.rws _ hm x hx)
      · exact keep hx
end Go.Proofs.Ytnbhdpmhgamjfaa.Sn

/- The snapshot database: finish and Commit, plain. -/
namespace Go.Proofs.Ytnbhdpmhgamjfaa.Sn
open Go Go.RowKit Hp So
open Mv (Val PC PV rowC fm_len fm_take fm_drop fm_get fm_set fm_one RowIn StR Srt SOk pos has fx_lt fx_up ty_chg has_pos pos_le cnt addL adL latL vacuumL vacL vac_mem cnt_vac lastTs getD_mem)
set_option linter.unusedVariables false

def oldL (c : Int) (l : List Tr) : Int := l.foldl (fun o t => if t.start < o then t.start else o) c
theorem oldL_le (c : Int) (l : List Tr) : oldL c l ≤ c ∧ ∀ t ∈ l, oldL c l ≤ t.start := by
  induction l generalizing c with
  | nil => exact ⟨Int.le_refl _, fun t ht => by cases ht⟩
  | cons a l ih =>
    unfold oldL
    rw [List.foldl_cons]
    obtain ⟨h1, h2⟩ := ih (if a.start < c then a.start else c)
    have e : (if a.start < c then a.start else c) ≤ c ∧ (if a.start < c then a.start else c) ≤ a.start := by split <;> omega
    unfold oldL at h1 h2
    refine ⟨by omega, fun t ht => ?_⟩
    rcases List.mem_cons.1 ht with rfl | ht
    · omega
    · exact h2 t ht
theorem oldL_ge (c h : Int) (l : List Tr) (hc : h ≤ c) (hl : ∀ t ∈ l, h ≤ t.start) : h ≤ oldL c l := by
  induction l generalizing c with
  | nil => exact hc
  | cons a l ih =>
    unfold oldL
    rw [List.foldl_cons]
    refine ih _ ?_ fun t ht => hl t (List.mem_cons_of_mem _ ht)
    have := hl a (List.mem_cons_self ..)
    split <;> omega
def finD (d : Db) (i : Nat) : Db := { d with act := d.act.eraseIdx i, st := (vacuumL d.st d.hz (oldL d.clock (d.act.eraseIdx i))).1, hz := (vacuumL d.st d.hz (oldL d.clock (d.act.eraseIdx i))).2.1 }
theorem fin_hz {d : Db} (h : DOk d) (i : Nat) : d.hz ≤ oldL d.clock (d.act.eraseIdx i) ∧ oldL d.clock (d.act.eraseIdx i) ≤ d.clock ∧ (∀ t ∈ d.act.eraseIdx i, oldL d.clock (d.act.eraseIdx i) ≤ t.start) ∧
    ((vacuumL d.st d.hz (oldL d.clock (d.act.eraseIdx i))) = (d.st, d.hz, 0) ∨ (vacuumL d.st d.hz (oldL d.clock (d.act.eraseIdx i))) = (vacL d.st (oldL d.clock (d.act.eraseIdx i)), oldL d.clock (d.act.eraseIdx i), 0)) := by
  have h1 := oldL_ge d.clock d.hz (d.act.eraseIdx i) h.hz.2 fun t ht => (h.start t (List.mem_of_mem_eraseIdx ht)).1
  have h2 := oldL_le d.clock (d.act.eraseIdx i)
  have := h.hz; have := h.clock
  refine ⟨h1, h2.1, h2.2, ?_⟩
  unfold vacuumL
  rw [if_neg (by omega)]
  split
  · exact .inl rfl
  · exact .inr rfl
theorem fin_ok {d : Db} (h : DOk d) (i : Nat) : DOk (finD d i) ∧ cnt (finD d i).st ≤ cnt d.st := by
  obtain ⟨h1, h2, h3, h4⟩ := fin_hz h i
  have sub := List.eraseIdx_sublist d.act i
  have mem : ∀ t ∈ d.act.eraseIdx i, t ∈ d.act := fun t ht => List.mem_of_mem_eraseIdx ht
  have hst : SOk (finD d i).st (finD d i).hz ∧ (0 ≤ (finD d i).hz ∧ (finD d i).hz ≤ d.clock) ∧ (∀ t ∈ d.act.eraseIdx i, (finD d i).hz ≤ t.start) ∧ (∀ c ∈ (finD d i).st, ∀ v ∈ c.2, v.ts ≤ d.clock) ∧ cnt (finD d i).st ≤ cnt d.st := by
    have hz := h.hz
    unfold finD
    rcases h4 with h4 | h4 <;> rw [h4]
    · exact ⟨h.st, h.hz, fun t ht => (h.start t (mem t ht)).1, h.ts, Nat.le_refl _⟩
    · refine ⟨Mv.SOk.vac h.st _, ⟨by show 0 ≤ oldL _ _; omega, h2⟩, h3, fun c hc v hv => ?_, cnt_vac _ _⟩
      obtain ⟨c0, hc0, _, e, _⟩ := vac_mem hc
      rw [e] at hv
      exact h.ts c0 hc0 v (List.mem_of_mem_drop hv)
  obtain ⟨a1, a2, a3, a4, a5⟩ := hst
  exact ⟨⟨a1, a2, h.clock, h.last, Nat.le_trans sub.length_le h.act, h.ids.sublist sub, fun t ht => h.idl t (mem t ht), fun t ht => ⟨a3 t ht, (h.start t (mem t ht)).2⟩, fun t ht => h.srt t (mem t ht), fun t ht => h.len t (mem t ht), fun t ht => h.key t (mem t ht), a4⟩, a5⟩
def wrV (x : Wr) (ts : Int) : PV := if x.del then ⟨ts, true, []⟩ else ⟨ts, false, x.row⟩
def putAll (st : List PC) (hz ts : Int) (l : WL) : List PC := l.foldl (fun s x => (addL s hz x.1 (wrV x.2 ts)).1) st
def conf (d : Db) (t : Tr) : Bool := t.w.any fun x => decide (t.start < latL d.st x.1)
def comD (d : Db) (i : Nat) (t : Tr) : Db := { finD d i with clock := d.clock + 1, st := putAll (finD d i).st (finD d i).hz (d.clock + 1) t.w }
def comP (d : Db) (id : Int) : Db × Int × Int :=
  if tidx d.act id < 0 then (d, 0, 4)
  else if conf d (d.act.getD (tidx d.act id).toNat ⟨0, 0, []⟩) = true then (finD d (tidx d.act id).toNat, 0, 13)
  else if 400 < cnt d.st + (d.act.getD (tidx d.act id).toNat ⟨0, 0, []⟩).w.length then (d, 0, 18)
  else if (d.act.getD (tidx d.act id).toNat ⟨0, 0, []⟩).w.length = 0 then (finD d (tidx d.act id).toNat, d.clock, 0)
  else (comD d (tidx d.act id).toNat (d.act.getD (tidx d.act id).toNat ⟨0, 0, []⟩), d.clock + 1, 0)
def rolP (d : Db) (id : Int) : Db × Int := if tidx d.act id < 0 then (d, 4) else (finD d (tidx d.act id).toNat, 0)
theorem addL_mem {l : List PC} {hz : Int} {k : ByteArray} {v : PV} : ∀ c ∈ (addL l hz k v).1, ∀ u ∈ c.2, u = v ∨ ∃ c0 ∈ l, u ∈ c0.2 := fun c hc u hu => by
  have old : c ∈ l → u = v ∨ ∃ c0 ∈ l, u ∈ c0.2 := fun h => .inr ⟨c, h, hu⟩
  have ad : c ∈ adL l k v → u = v ∨ ∃ c0 ∈ l, u ∈ c0.2 := fun h => (Mv.adL_mem h).1 u hu
  unfold addL at hc
  unfold adL at ad
  repeat' split at hc
  all_goals first
    | exact old hc
    | (rename_i hh; rw [if_pos hh] at ad; exact ad hc)
    | (rename_i hh; rw [if_neg hh] at ad; exact ad hc)
theorem cnt_addL (l : List PC) (hz : Int) (k : ByteArray) (v : PV) : cnt (addL l hz k v).1 ≤ cnt l + 1 := by
  have ad := Mv.cnt_ad l k v
  unfold adL at ad
  unfold addL
  repeat' split
  all_goals first
    | exact Nat.le_succ _
    | (rename_i hh; rw [if_pos hh] at ad; exact Nat.le_of_eq ad)
    | (rename_i hh; rw [if_neg hh] at ad; exact Nat.le_of_eq ad)
theorem putAll_ts (hz ts : Int) (l : WL) (st : List PC) (h : ∀ c ∈ st, ∀ v ∈ c.2, v.ts ≤ ts) : ∀ c ∈ putAll st hz ts l, ∀ v ∈ c.2, v.ts ≤ ts := by
  induction l generalizing st with
  | nil => exact h
  | cons x l ih =>
    refine ih _ fun c hc v hv => ?_
    rcases addL_mem c hc v hv with rfl | ⟨c0, h0, h1⟩
    · unfold wrV; split <;> exact Int.le_refl _
    · exact h c0 h0 v h1
theorem putAll_cnt (hz ts : Int) (l : WL) (st : List PC) : cnt (putAll st hz ts l) ≤ cnt st + l.length := by
  induction l generalizing st with
  | nil => exact Nat.le_refl _
  | cons x l ih =>
    have := cnt_addL st hz x.1 (wrV x.2 ts)
    have := ih (addL st hz x.1 (wrV x.2 ts)).1
    show cnt (putAll _ hz ts l) ≤ _
    simp only [List.length_cons]
    omega
end Go.Proofs.Ytnbhdpmhgamjfaa.Sn
