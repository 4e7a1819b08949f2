/- The snapshot database: finish and Commit, plain. -/
import Derived.Test.YtinmpodnfofmdaaSnj
namespace Go.Proofs.Ytinmpodnfofmdaa.Sn
open Go Go.RowKit Hp So
open Mv (Val PC PV rowC fm_len fm_take fm_drop fm_get fm_set fm_one RowIn StR Srt SOk pos has fx_lt fx_up ty_chg has_pos pos_le cnt addL adL latL vacuumL vacL vac_mem cnt_vac lastTs getD_mem)
set_option linter.unusedVariables false

def oldL (c : Int) (l : List Tr) : Int := l.foldl (fun o t => if t.start < o then t.start else o) c
theorem oldL_le (c : Int) (l : List Tr) : oldL c l ≤ c ∧ ∀ t ∈ l, oldL c l ≤ t.start := by
  induction l generalizing c with
  | nil => exact ⟨Int.le_refl _, fun t ht => by cases ht⟩
  | cons a l ih =>
    unfold oldL
    rw [List.foldl_cons]
    obtain ⟨h1, h2⟩ := ih (if a.start < c then a.start else c)
    have e : (if a.start < c then a.start else c) ≤ c ∧ (if a.start < c then a.start else c) ≤ a.start := by split <;> omega
    unfold oldL at h1 h2
    refine ⟨by omega, fun t ht => ?_⟩
    rcases List.mem_cons.1 ht with rfl | ht
    · omega
    · exact h2 t ht
theorem oldL_ge (c h : Int) (l : List Tr) (hc : h ≤ c) (hl : ∀ t ∈ l, h ≤ t.start) : h ≤ oldL c l := by
  induction l generalizing c with
  | nil => exact hc
  | cons a l ih =>
    unfold oldL
    rw [List.foldl_cons]
    refine ih _ ?_ fun t ht => hl t (List.mem_cons_of_mem _ ht)
    have := hl a (List.mem_cons_self ..)
    split <;> omega
def finD (d : Db) (i : Nat) : Db := { d with act := d.act.eraseIdx i, st := (vacuumL d.st d.hz (oldL d.clock (d.act.eraseIdx i))).1, hz := (vacuumL d.st d.hz (oldL d.clock (d.act.eraseIdx i))).2.1 }
theorem fin_hz {d : Db} (h : DOk d) (i : Nat) : d.hz ≤ oldL d.clock (d.act.eraseIdx i) ∧ oldL d.clock (d.act.eraseIdx i) ≤ d.clock ∧ (∀ t ∈ d.act.eraseIdx i, oldL d.clock (d.act.eraseIdx i) ≤ t.start) ∧
    ((vacuumL d.st d.hz (oldL d.clock (d.act.eraseIdx i))) = (d.st, d.hz, 0) ∨ (vacuumL d.st d.hz (oldL d.clock (d.act.eraseIdx i))) = (vacL d.st (oldL d.clock (d.act.eraseIdx i)), oldL d.clock (d.act.eraseIdx i), 0)) := by
  have h1 := oldL_ge d.clock d.hz (d.act.eraseIdx i) h.hz.2 fun t ht => (h.start t (List.mem_of_mem_eraseIdx ht)).1
  have h2 := oldL_le d.clock (d.act.eraseIdx i)
  have := h.hz; have := h.clock
  refine ⟨h1, h2.1, h2.2, ?_⟩
  unfold vacuumL
  rw [if_neg (by omega)]
  split
  · exact .inl rfl
  · exact .inr rfl
theorem fin_ok {d : Db} (h : DOk d) (i : Nat) : DOk (finD d i) ∧ cnt (finD d i).st ≤ cnt d.st := by
  obtain ⟨h1, h2, h3, h4⟩ := fin_hz h i
  have sub := List.eraseIdx_sublist d.act i
  have mem : ∀ t ∈ d.act.eraseIdx i, t ∈ d.act := fun t ht => List.mem_of_mem_eraseIdx ht
  have hst : SOk (finD d i).st (finD d i).hz ∧ (0 ≤ (finD d i).hz ∧ (finD d i).hz ≤ d.clock) ∧ (∀ t ∈ d.act.eraseIdx i, (finD d i).hz ≤ t.start) ∧ (∀ c ∈ (finD d i).st, ∀ v ∈ c.2, v.ts ≤ d.clock) ∧ cnt (finD d i).st ≤ cnt d.st := by
    have hz := h.hz
    unfold finD
    rcases h4 with h4 | h4 <;> rw [h4]
    · exact ⟨h.st, h.hz, fun t ht => (h.start t (mem t ht)).1, h.ts, Nat.le_refl _⟩
    · refine ⟨Mv.SOk.vac h.st _, ⟨by show 0 ≤ oldL _ _; omega, h2⟩, h3, fun c hc v hv => ?_, cnt_vac _ _⟩
      obtain ⟨c0, hc0, _, e, _⟩ := vac_mem hc
      rw [e] at hv
      exact h.ts c0 hc0 v (List.mem_of_mem_drop hv)
  obtain ⟨a1, a2, a3, a4, a5⟩ := hst
  exact ⟨⟨a1, a2, h.clock, h.last, Nat.le_trans sub.length_le h.act, h.ids.sublist sub, fun t ht => h.idl t (mem t ht), fun t ht => ⟨a3 t ht, (h.start t (mem t ht)).2⟩, fun t ht => h.srt t (mem t ht), fun t ht => h.len t (mem t ht), fun t ht => h.key t (mem t ht), a4⟩, a5⟩
def wrV (x : Wr) (ts : Int) : PV := if x.del then ⟨ts, true, []⟩ else ⟨ts, false, x.row⟩
def putAll (st : List PC) (hz ts : Int) (l : WL) : List PC := l.foldl (fun s x => (addL s hz x.1 (wrV x.2 ts)).1) st
def conf (d : Db) (t : Tr) : Bool := t.w.any fun x => decide (t.start < latL d.st x.1)
def comD (d : Db) (i : Nat) (t : Tr) : Db := { finD d i with clock := d.clock + 1, st := putAll (finD d i).st (finD d i).hz (d.clock + 1) t.w }
def comP (d : Db) (id : Int) : Db × Int × Int :=
  if tidx d.act id < 0 then (d, 0, 4)
  else if conf d (d.act.getD (tidx d.act id).toNat ⟨0, 0, []⟩) = true then (finD d (tidx d.act id).toNat, 0, 13)
  else if 400 < cnt d.st + (d.act.getD (tidx d.act id).toNat ⟨0, 0, []⟩).w.length then (d, 0, 18)
  else if (d.act.getD (tidx d.act id).toNat ⟨0, 0, []⟩).w.length = 0 then (finD d (tidx d.act id).toNat, d.clock, 0)
  else (comD d (tidx d.act id).toNat (d.act.getD (tidx d.act id).toNat ⟨0, 0, []⟩), d.clock + 1, 0)
def rolP (d : Db) (id : Int) : Db × Int := if tidx d.act id < 0 then (d, 4) else (finD d (tidx d.act id).toNat, 0)
theorem addL_mem {l : List PC} {hz : Int} {k : ByteArray} {v : PV} : ∀ c ∈ (addL l hz k v).1, ∀ u ∈ c.2, u = v ∨ ∃ c0 ∈ l, u ∈ c0.2 := fun c hc u hu => by
  have old : c ∈ l → u = v ∨ ∃ c0 ∈ l, u ∈ c0.2 := fun h => .inr ⟨c, h, hu⟩
  have ad : c ∈ adL l k v → u = v ∨ ∃ c0 ∈ l, u ∈ c0.2 := fun h => (Mv.adL_mem h).1 u hu
  unfold addL at hc
  unfold adL at ad
  repeat' split at hc
  all_goals first
    | exact old hc
    | (rename_i hh; rw [if_pos hh] at ad; exact ad hc)
    | (rename_i hh; rw [if_neg hh] at ad; exact ad hc)
theorem cnt_addL (l : List PC) (hz : Int) (k : ByteArray) (v : PV) : cnt (addL l hz k v).1 ≤ cnt l + 1 := by
  have ad := Mv.cnt_ad l k v
  unfold adL at ad
  unfold addL
  repeat' split
  all_goals first
    | exact Nat.le_succ _
    | (rename_i hh; rw [if_pos hh] at ad; exact Nat.le_of_eq ad)
    | (rename_i hh; rw [if_neg hh] at ad; exact Nat.le_of_eq ad)
theorem putAll_ts (hz ts : Int) (l : WL) (st : List PC) (h : ∀ c ∈ st, ∀ v ∈ c.2, v.ts ≤ ts) : ∀ c ∈ putAll st hz ts l, ∀ v ∈ c.2, v.ts ≤ ts := by
  induction l generalizing st with
  | nil => exact h
  | cons x l ih =>
    refine ih _ fun c hc v hv => ?_
    rcases addL_mem c hc v hv with rfl | ⟨c0, h0, h1⟩
    · unfold wrV; split <;> exact Int.le_refl _
    · exact h c0 h0 v h1
theorem putAll_cnt (hz ts : Int) (l : WL) (st : List PC) : cnt (putAll st hz ts l) ≤ cnt st + l.length := by
  induction l generalizing st with
  | nil => exact Nat.le_refl _
  | cons x l ih =>
    have := cnt_addL st hz x.1 (wrV x.2 ts)
    have := ih (addL st hz x.1 (wrV x.2 ts)).1
    show cnt (putAll _ hz ts l) ≤ _
    simp only [List.length_cons]
    omega
end Go.Proofs.Ytinmpodnfofmdaa.Sn
