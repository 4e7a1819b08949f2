/- Recovery: the engine's invariant is kept. -/
import Derived.Test.YtjalpppmgoepiaaRvo
namespace Go.Proofs.Ytjalpppmgoepiaa.Rv
open Go Go.RowKit Hp
set_option linter.unusedVariables false

structure EI (E : Eng) : Prop where
  lg : LegL E.log
  bf : E.buf = rp E.log
  dl : E.dsk.length = 6
  dk : ∀ p, p < 6 → (at_ E.dsk p).2 ≤ E.fl ∧ at_ E.dsk p = at_ (rp (E.log.take (at_ E.dsk p).2)) p
  fl : E.fl ≤ E.log.length
  la : ∀ r ∈ E.log, r.tx ≤ E.last
  ac : ∀ t ∈ E.act, 1 ≤ t ∧ t ≤ E.last ∧ (lsl E.log).en t = false
  nd : E.act.Nodup
  wl : E.wri.length = 6
  wr : ∀ p, p < 6 → E.wri.getD p 0 = (lsl E.log).own p
  oa : ∀ p, (lsl E.log).own p ≠ 0 → (lsl E.log).own p ∈ E.act
  cf : ∀ m, E.fl ≤ m → m ≤ E.log.length → (lsl (E.log.take m)).cm = (lsl E.log).cm
theorem EI.app {E E' : Eng} {r : Rec} (h : EI E) (hl : E'.log = E.log ++ [r]) (hb : E'.buf = (appE E r).buf) (hd : E'.dsk = E.dsk) (hf1 : E.fl ≤ E'.fl) (hf2 : E'.fl ≤ E'.log.length) (hla : E'.last = E.last) (hr : Legal (lsl E.log) r) (ht : r.tx ≤ E.last)
    (ac : ∀ t ∈ E'.act, 1 ≤ t ∧ t ≤ E.last ∧ (lsl E'.log).en t = false) (nd : E'.act.Nodup) (wl : E'.wri.length = 6) (wr : ∀ p, p < 6 → E'.wri.getD p 0 = (lsl E'.log).own p) (oa : ∀ p, (lsl E'.log).own p ≠ 0 → (lsl E'.log).own p ∈ E'.act)
    (cf : ∀ m, E'.fl ≤ m → m ≤ E'.log.length → (lsl (E'.log.take m)).cm = (lsl E'.log).cm) : EI E' := by
  refine ⟨by rw [hl]; exact h.lg.snoc hr, ?_, by rw [hd]; exact h.dl, fun p hp => ?_, hf2, fun q hq => ?_, fun t ht => by rw [hla]; exact ac t ht, nd, wl, wr, oa, cf⟩
  · rw [hb, hl, rp_snoc, ← h.bf]
    rfl
  · obtain ⟨a, b⟩ := h.dk p hp
    rw [hd]
    refine ⟨Nat.le_trans a hf1, ?_⟩
    rw [hl, List.take_append_of_le_length (Nat.le_trans a h.fl)]
    exact b
  · rw [hl] at hq
    rw [hla]
    rcases List.mem_append.1 hq with k | k
    · exact h.la q k
    · rw [List.mem_singleton.1 k]; exact ht
theorem cf_app {E E' : Eng} {r : Rec} (h : EI E) (hl : E'.log = E.log ++ [r]) (hf : E'.fl = E.fl) (hc : (lst (lsl E.log) r).cm = (lsl E.log).cm) : ∀ m, E'.fl ≤ m → m ≤ E'.log.length → (lsl (E'.log.take m)).cm = (lsl E'.log).cm := fun m h1 h2 => by
  rw [hl] at h2 ⊢
  rw [List.length_append] at h2
  rcases Nat.lt_or_ge E.log.length m with k | k
  · rw [List.take_of_length_le (by rw [List.length_append]; simp at h2 ⊢; omega)]
  · rw [List.take_append_of_le_length k, lsl_snoc, hc]
    exact h.cf m (by omega) k
theorem lst_en (s : Ls) (r : Rec) (h : r.kind = 1 ∨ r.kind = 2) : (lst s r).en = s.en ∧ (lst s r).cm = s.cm := by
  unfold lst
  rcases h with h | h
  · rw [if_pos h]; exact ⟨rfl, rfl⟩
  · rw [if_neg (show ¬ r.kind = 1 by omega), if_pos h]; exact ⟨rfl, rfl⟩
theorem getD_set (l : List Nat) (q v : Nat) (hq : q < l.length) (p : Nat) : (l.set q v).getD p 0 = if p = q then v else l.getD p 0 := by
  rw [List.getD_eq_getElem?_getD, List.getD_eq_getElem?_getD, List.getElem?_set]
  by_cases e : q = p
  · subst e; simp [hq]
  · rw [if_neg e, if_neg (fun h => e h.symm)]
theorem EI.write {E : Eng} (h : EI E) {t pg : Nat} (ht : t ∈ E.act) (hp : pg < 6) (hb : bsy E t pg = false) (v : Int) : EI (wrE E t pg v) ∧ (lsl (wrE E t pg v).log).own = upd (lsl E.log).own pg t ∧ (lsl (wrE E t pg v).log).cm = (lsl E.log).cm ∧ (lsl (wrE E t pg v).log).vl = upd (lsl E.log).vl pg v := by
  obtain ⟨a1, a2, a3⟩ := h.ac t ht
  have ho : (lsl E.log).own pg = 0 ∨ (lsl E.log).own pg = t := by
    rw [← h.wr pg hp]
    unfold bsy at hb
    by_cases e : E.wri.getD pg 0 = 0
    · exact .inl e
    · by_cases e2 : E.wri.getD pg 0 = t
      · exact .inr e2
      · rw [decide_eq_true e, decide_eq_true e2] at hb; cases hb
  have hL : (wrE E t pg v).log = E.log ++ [⟨1, t, pg, (at_ E.buf pg).1, v⟩] := rfl
  have hr : Legal (lsl E.log) ⟨1, t, pg, (at_ E.buf pg).1, v⟩ := ⟨a1, a3, hp, .inl rfl, fun _ => ⟨by rw [h.bf]; exact rp_vl E.log h.lg pg hp, ho⟩, fun e => (by cases e)⟩
  have e1 : lst (lsl E.log) ⟨1, t, pg, (at_ E.buf pg).1, v⟩ = { lsl E.log with own := upd (lsl E.log).own pg t, stk := upd (lsl E.log).stk t ((pg, (at_ E.buf pg).1) :: (lsl E.log).stk t), vl := upd (lsl E.log).vl pg v } := rfl
  refine ⟨h.app hL rfl rfl (Nat.le_refl _) (by rw [hL, List.length_append]; have := h.fl; show E.fl ≤ _; omega) rfl hr a2 (fun q hq => ?_) h.nd ?_ (fun p hp2 => ?_) (fun p hp2 => ?_) (cf_app h hL rfl (by rw [e1])), by rw [hL, lsl_snoc, e1], by rw [hL, lsl_snoc, e1], by rw [hL, lsl_snoc, e1]⟩
  · rw [hL, lsl_snoc, e1]
    exact h.ac q hq
  · show (E.wri.set pg t).length = 6
    rw [List.length_set]; exact h.wl
  · show (E.wri.set pg t).getD p 0 = _
    rw [hL, lsl_snoc, e1, getD_set _ _ _ (by rw [h.wl]; exact hp), h.wr p hp2]
    rfl
  · rw [hL, lsl_snoc, e1] at hp2 ⊢
    have hp3 : upd (lsl E.log).own pg t p ≠ 0 := hp2
    show upd (lsl E.log).own pg t p ∈ E.act
    unfold upd at hp3 ⊢
    split
    · exact ht
    · rename_i e
      rw [if_neg e] at hp3
      exact h.oa p hp3
/-! ### The end of a transaction -/
theorem lst_end (s : Ls) (t : Nat) : lst s ⟨3, t, 0, 0, 0⟩ = { s with cm := fun p => if s.own p = t then s.vl p else s.cm p, own := fun p => if s.own p = t then 0 else s.own p, en := upd s.en t true } := rfl
theorem getD_zw (l : List Nat) (t p : Nat) (ht : 1 ≤ t) : (l.map (zw t)).getD p 0 = if l.getD p 0 = t then 0 else l.getD p 0 := by
  rw [List.getD_eq_getElem?_getD, List.getD_eq_getElem?_getD, List.getElem?_map]
  cases l[p]? with
  | none => show (0 : Nat) = if (0 : Nat) = t then 0 else 0; split <;> rfl
  | some x => rfl
theorem end_legal {E : Eng} (h : EI E) {t : Nat} (ht : t ∈ E.act) : Legal (lsl E.log) ⟨3, t, 0, 0, 0⟩ := ⟨(h.ac t ht).1, (h.ac t ht).2.2, (by show 0 < 6; omega), .inr (.inr rfl), fun e => (by cases e), fun e => (by cases e)⟩
theorem EI.fin {E E' : Eng} (h : EI E) {t : Nat} (ht : t ∈ E.act) (hf : E'.fl = E.fl ∧ (∀ p, (lsl E.log).own p = t → (lsl E.log).vl p = (lsl E.log).cm p) ∨ E'.fl = E.log.length + 1) (hE : E' = { finE E t with fl := E'.fl }) :
    EI E' ∧ (lsl E'.log).own = (fun p => if (lsl E.log).own p = t then 0 else (lsl E.log).own p) ∧ (lsl E'.log).cm = (fun p => if (lsl E.log).own p = t then (lsl E.log).vl p else (lsl E.log).cm p) ∧ (lsl E'.log).vl = (lsl E.log).vl := by
  obtain ⟨a1, a2, a3⟩ := h.ac t ht
  have hL : E'.log = E.log ++ [⟨3, t, 0, 0, 0⟩] := by rw [hE]; rfl
  have hA : E'.act = keepC t E.act := by rw [hE, fin_eq]
  have hW : E'.wri = E.wri.map (zw t) := by rw [hE, fin_eq]
  have hmem : ∀ q, q ∈ keepC t E.act ↔ q ∈ E.act ∧ q ≠ t := fun q => by unfold keepC oldC; simp
  have e1 := lst_end (lsl E.log) t
  refine ⟨h.app hL (by rw [hE]; rfl) (by rw [hE]; rfl) ?_ ?_ (by rw [hE]; rfl) (end_legal h ht) a2 (fun q hq => ?_) ?_ ?_ (fun p hp2 => ?_) (fun p hp2 => ?_) ?_, by rw [hL, lsl_snoc, e1], by rw [hL, lsl_snoc, e1], by rw [hL, lsl_snoc, e1]⟩
  · have := h.fl
    rcases hf with h1 | h1
    · exact Nat.le_of_eq h1.1.symm
    · omega
  · rw [hL, List.length_append]
    have := h.fl
    rcases hf with h1 | h1
    · rw [h1.1]; omega
    · rw [h1]; simp
  · rw [hA] at hq
    obtain ⟨q1, q2⟩ := (hmem q).1 hq
    obtain ⟨b1, b2, b3⟩ := h.ac q q1
    refine ⟨b1, b2, ?_⟩
    rw [hL, lsl_snoc, e1]
    show upd (lsl E.log).en t true q = false
    rw [upd_other _ _ _ q2]
    exact b3
  · rw [hA]
    exact h.nd.filter _
  · rw [hW, List.length_map]; exact h.wl
  · rw [hW, getD_zw _ _ _ a1, h.wr p hp2, hL, lsl_snoc, e1]
  · rw [hL, lsl_snoc, e1] at hp2 ⊢
    have hp3 : (if (lsl E.log).own p = t then 0 else (lsl E.log).own p) ≠ 0 := hp2
    show (if (lsl E.log).own p = t then 0 else (lsl E.log).own p) ∈ E'.act
    rw [hA]
    by_cases e : (lsl E.log).own p = t
    · rw [if_pos e] at hp3; exact absurd rfl hp3
    · rw [if_neg e] at hp3 ⊢
      exact (hmem _).2 ⟨h.oa p hp3, e⟩
  · rcases hf with ⟨f1, f2⟩ | f1
    · refine cf_app h hL f1 ?_
      rw [e1]
      funext p
      show (if (lsl E.log).own p = t then (lsl E.log).vl p else (lsl E.log).cm p) = _
      split
      · rename_i e; exact f2 p e
      · rfl
    · intro m h1 h2
      rw [List.take_of_length_le (by rw [hL, List.length_append]; simp; omega)]
theorem EI.commit {E : Eng} (h : EI E) {t : Nat} (ht : t ∈ E.act) : EI (comE E t) ∧ (lsl (comE E t).log).own = (fun p => if (lsl E.log).own p = t then 0 else (lsl E.log).own p) ∧ (lsl (comE E t).log).cm = (fun p => if (lsl E.log).own p = t then (lsl E.log).vl p else (lsl E.log).cm p) ∧ (lsl (comE E t).log).vl = (lsl E.log).vl :=
  h.fin ht (.inr (by show (E.log ++ [_]).length = _; simp)) rfl
/-! ### Undo -/
theorem und_scan (t : Nat) : ∀ (l : List Rec) (k : Nat) (E : Eng), ∃ X : List Rec, (l.foldl (ustep t) (k, E)).2 = X.foldl appE E ∧ X.map (fun r => (r.page, r.after)) = scan t l k ∧ ∀ r ∈ X, r.kind = 2 ∧ r.tx = t
  | [], k, E => ⟨[], rfl, rfl, fun r hr => (by cases hr)⟩
  | r :: l, k, E => by
    rw [List.foldl_cons]
    unfold scan
    by_cases e1 : r.tx ≠ t
    · rw [if_pos e1, show ustep t (k, E) r = (k, E) by unfold ustep; rw [if_pos e1]]
      exact und_scan t l k E
    · rw [if_neg e1]
      by_cases e2 : r.kind = 2
      · rw [if_pos e2, show ustep t (k, E) r = (k + 1, E) by unfold ustep; rw [if_neg e1, if_pos e2]]
        exact und_scan t l (k + 1) E
      · rw [if_neg e2]
        by_cases e3 : r.kind = 1
        · rw [if_pos e3]
          by_cases e4 : 0 < k
          · rw [if_pos e4, show ustep t (k, E) r = (k - 1, E) by unfold ustep; rw [if_neg e1, if_neg e2, if_pos e3, if_pos e4]]
            exact und_scan t l (k - 1) E
          · rw [if_neg e4, show ustep t (k, E) r = (0, appE E ⟨2, t, r.page, r.after, r.before⟩) by unfold ustep; rw [if_neg e1, if_neg e2, if_pos e3, if_neg e4]]
            obtain ⟨X, x1, x2, x3⟩ := und_scan t l 0 (appE E ⟨2, t, r.page, r.after, r.before⟩)
            refine ⟨⟨2, t, r.page, r.after, r.before⟩ :: X, x1, by rw [List.map_cons, x2], fun q hq => ?_⟩
            rcases List.mem_cons.1 hq with rfl | hq
            · exact ⟨rfl, rfl⟩
            · exact x3 q hq
        · rw [if_neg e3, show ustep t (k, E) r = (k, E) by unfold ustep; rw [if_neg e1, if_neg e2, if_neg e3]]
          exact und_scan t l k E
theorem undo_is (E : Eng) (t : Nat) : ∃ X : List Rec, undoE E t = X.foldl appE E ∧ X.map (fun r => (r.page, r.after)) = (lsl E.log).stk t ∧ ∀ r ∈ X, r.kind = 2 ∧ r.tx = t := by
  obtain ⟨X, x1, x2, x3⟩ := und_scan t E.log.reverse 0 E
  exact ⟨X, x1, by rw [x2, scan_stk]; rfl, x3⟩
/-- What the compensations of a whole stack do to the machine. -/
structure Comp (t : Nat) (s s' : Ls) : Prop where
  own : s'.own = s.own
  cm : s'.cm = s.cm
  en : s'.en = s.en
  st : s'.stk t = []
  vo : ∀ p, s.own p ≠ t → s'.vl p = s.vl p
theorem comp_one {s : Ls} {r : Rec} (hk : r.kind = 2) : (lst s r).own = s.own ∧ (lst s r).cm = s.cm ∧ (lst s r).en = s.en ∧ (lst s r).stk r.tx = (s.stk r.tx).tail ∧ (lst s r).vl = upd s.vl r.page r.after := by
  unfold lst
  rw [if_neg (show ¬ r.kind = 1 by omega), if_pos hk]
  exact ⟨rfl, rfl, rfl, upd_same _ _ _, rfl⟩
/-- Logging them one behind the other, from any engine whose buffer and log agree. -/
theorem comps (t : Nat) (ht : 1 ≤ t) : ∀ (X : List Rec) (E : Eng), LegL E.log → E.buf = rp E.log → (lsl E.log).en t = false → X.map (fun r => (r.page, r.after)) = (lsl E.log).stk t → (∀ r ∈ X, r.kind = 2 ∧ r.tx = t) →
    LegL (X.foldl appE E).log ∧ (X.foldl appE E).buf = rp (X.foldl appE E).log ∧ Comp t (lsl E.log) (lsl (X.foldl appE E).log) ∧ (X.foldl appE E).log = E.log ++ X
  | [], E, h1, h2, h3, h4, h5 => ⟨h1, h2, ⟨rfl, rfl, rfl, h4.symm, fun _ _ => rfl⟩, (List.append_nil _).symm⟩
  | r :: X, E, h1, h2, h3, h4, h5 => by
    obtain ⟨k1, k2⟩ := h5 r List.mem_cons_self
    rw [List.map_cons] at h4
    have ho : (lsl E.log).own r.page = t := (ki E.log h1).k3 t (by omega) h3 (r.page, r.after) (by rw [← h4]; exact List.mem_cons_self)
    have hpg : r.page < 6 := by
      rcases Nat.lt_or_ge r.page 6 with h | h
      · exact h
      · exfalso
        have : ∀ l, LegL l → (lsl l).own r.page = 0 := fun l => snoc_induct (P := fun l => LegL l → (lsl l).own r.page = 0) (fun _ => rfl) (fun l q ih hq => by
          rw [lsl_snoc]
          have hl := hq.last
          have ih := ih hq.pre
          unfold lst
          split
          · show upd (lsl l).own q.page q.tx r.page = 0
            rw [upd_other _ _ _ (by have := hl.pg; omega)]; exact ih
          · split
            · exact ih
            · show (if (lsl l).own r.page = q.tx then 0 else (lsl l).own r.page) = 0
              rw [ih]; split <;> rfl) l
        rw [this E.log h1] at ho
        omega
    have hr : Legal (lsl E.log) r := ⟨by omega, by rw [k2]; exact h3, hpg, .inr (.inl k1), fun e => by omega, fun _ => ⟨_, by rw [k2]; exact h4.symm⟩⟩
    obtain ⟨c1, c2, c3, c4, c5⟩ := comp_one (s := lsl E.log) k1
    have hL : (appE E r).log = E.log ++ [r] := rfl
    have hS : lsl (appE E r).log = lst (lsl E.log) r := by rw [hL, lsl_snoc]
    obtain ⟨i1, i2, i3, i4⟩ := comps t ht X (appE E r) (by rw [hL]; exact h1.snoc hr) (by
        rw [hL, rp_snoc, ← h2]
        show (if r.kind = 3 then E.buf else _) = _
        rfl) (by rw [hS, c3]; exact h3) (by rw [hS, ← k2, c4, k2, ← h4]; rfl) (fun q hq => h5 q (List.mem_cons_of_mem _ hq))
    rw [List.foldl_cons]
    refine ⟨i1, i2, ⟨by rw [i3.own, hS, c1], by rw [i3.cm, hS, c2], by rw [i3.en, hS, c3], i3.st, fun p hp => ?_⟩, ?_⟩
    · rw [i3.vo p (by rw [hS, c1]; exact hp), hS, c5, upd_other _ _ _ (fun e => by subst e; exact hp ho)]
    · rw [i4, hL, List.append_assoc]
      rfl
end Go.Proofs.Ytjalpppmgoepiaa.Rv
