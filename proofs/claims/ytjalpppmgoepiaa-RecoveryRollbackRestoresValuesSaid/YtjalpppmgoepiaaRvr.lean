/- Recovery: Crash keeps the invariant, and ends every transaction. -/
import Derived.Test.YtjalpppmgoepiaaRvq
namespace Go.Proofs.Ytjalpppmgoepiaa.Rv
open Go Go.RowKit Hp
set_option linter.unusedVariables false

theorem own_src' (l : List Rec) (p : Nat) : (lsl l).own p ≠ 0 → ∃ r ∈ l, r.tx = (lsl l).own p := by
  refine snoc_induct (P := fun l => (lsl l).own p ≠ 0 → ∃ r ∈ l, r.tx = (lsl l).own p) (fun h => absurd rfl h) (fun l r ih h => ?_) l
  rw [lsl_snoc] at h ⊢
  have up : (lsl l).own p ≠ 0 → ∃ q ∈ l ++ [r], q.tx = (lsl l).own p := fun h => by
    obtain ⟨q, q1, q2⟩ := ih h
    exact ⟨q, List.mem_append_left _ q1, q2⟩
  unfold lst at h ⊢
  split
  · rename_i e
    rw [if_pos e] at h
    have h' : upd (lsl l).own r.page r.tx p ≠ 0 := h
    show ∃ q ∈ l ++ [r], q.tx = upd (lsl l).own r.page r.tx p
    unfold upd at h' ⊢
    split
    · exact ⟨r, by simp, rfl⟩
    · rename_i e2
      rw [if_neg e2] at h'
      exact up h'
  · rename_i e
    rw [if_neg e] at h
    split
    · rename_i e2
      rw [if_pos e2] at h
      exact up h
    · rename_i e2
      rw [if_neg e2] at h
      have h' : (if (lsl l).own p = r.tx then 0 else (lsl l).own p) ≠ 0 := h
      show ∃ q ∈ l ++ [r], q.tx = if (lsl l).own p = r.tx then 0 else (lsl l).own p
      by_cases e3 : (lsl l).own p = r.tx
      · rw [if_pos e3] at h'; exact absurd rfl h'
      · rw [if_neg e3] at h' ⊢
        exact up h'
theorem end_en (l : List Rec) (hl : LegL l) : ∀ k, k ≤ l.length → ∀ t, t ∈ endK l k ↔ (lsl (l.take k)).en t = true
  | 0, _, t => by
    rw [List.take_zero]
    constructor
    · intro h; cases h
    · intro h; cases h
  | k + 1, hk, t => by
    have ih := end_en l hl k (by omega) t
    rw [end_succ, rg_take l k (by omega), lsl_snoc]
    have hleg : Legal (lsl (l.take k)) ⟨rgK l k, rgT l k, rgP l k, rgB l k, rgA l k⟩ := by
      have := hl.take (k + 1)
      rw [rg_take l k (by omega)] at this
      exact this.last
    unfold estep lst
    rcases hleg.kd with e | e | e
    · have e : rgK l k = 1 := e
      rw [if_neg (show ¬ rgK l k = 3 by omega), if_pos e]
      exact ih
    · have e : rgK l k = 2 := e
      rw [if_neg (show ¬ rgK l k = 3 by omega), if_neg (show ¬ rgK l k = 1 by omega), if_pos e]
      exact ih
    · have e : rgK l k = 3 := e
      rw [if_pos e, if_neg (show ¬ rgK l k = 1 by omega), if_neg (show ¬ rgK l k = 2 by omega)]
      show t ∈ rgT l k :: endK l k ↔ upd (lsl (l.take k)).en (rgT l k) true t = true
      rw [List.mem_cons, ih]
      by_cases e2 : t = rgT l k
      · rw [e2, upd_same]; simp
      · rw [upd_other _ _ _ e2]; simp [e2]
/-- The state while the losers are undone. -/
structure LI (L : List Rec) (c : Nat → Int) (la : Nat) (s : Eng × List Nat) (k : Nat) : Prop where
  lg : LegL s.1.log
  bf : s.1.buf = rp s.1.log
  cm : (lsl s.1.log).cm = c
  pre : ∃ X, s.1.log = L ++ X
  src : ∀ r ∈ s.1.log, r.tx ≤ la ∧ ∃ j, j < L.length ∧ rgT L j = r.tx
  vs : ∀ t, t ∈ s.2 ↔ (lsl s.1.log).en t = true
  dn : ∀ j, j < k → rgT L j ∈ s.2
theorem LI.step {L : List Rec} {c : Nat → Int} {la : Nat} {s : Eng × List Nat} {k : Nat} (h : LI L c la s k) (hk : k < L.length) (ht : ∀ j, j < L.length → 1 ≤ rgT L j) : LI L c la (lstep L s k) (k + 1) := by
  unfold lstep
  split
  · rename_i hm
    refine ⟨h.lg, h.bf, h.cm, h.pre, h.src, h.vs, fun j hj => ?_⟩
    rcases Nat.lt_or_ge j k with e | e
    · exact h.dn j e
    · obtain rfl : j = k := by omega
      exact hm
  · rename_i hm
    have h1 := ht k hk
    generalize hT : rgT L k = t at *
    have hen : (lsl s.1.log).en t = false := by
      cases e : (lsl s.1.log).en t with
      | false => rfl
      | true => exact absurd ((h.vs t).2 e) hm
    have u := und s.1 t h1 h.lg h.bf hen
    obtain ⟨Y, y1, y2⟩ := u.lx
    have hen2 : (lsl (undoE s.1 t).log).en t = false := by rw [u.cp.en]; exact hen
    have hr : Legal (lsl (undoE s.1 t).log) ⟨3, t, 0, 0, 0⟩ := ⟨h1, hen2, (by show 0 < 6; omega), .inr (.inr rfl), fun e => (by cases e), fun e => (by cases e)⟩
    have hL : (appE (undoE s.1 t) ⟨3, t, 0, 0, 0⟩).log = (undoE s.1 t).log ++ [⟨3, t, 0, 0, 0⟩] := rfl
    have e1 := lst_end (lsl (undoE s.1 t).log) t
    refine ⟨?_, ?_, ?_, ?_, fun r hr => ?_, fun q => ?_, fun j hj => ?_⟩
    · show LegL ((undoE s.1 t).log ++ [⟨3, t, 0, 0, 0⟩])
      exact u.lg.snoc hr
    · show (undoE s.1 t).buf = rp ((undoE s.1 t).log ++ [⟨3, t, 0, 0, 0⟩])
      rw [rp_snoc, if_pos rfl]
      exact u.bf
    · show (lsl ((undoE s.1 t).log ++ [⟨3, t, 0, 0, 0⟩])).cm = c
      rw [lsl_snoc, e1, ← h.cm, ← u.cp.cm]
      funext p
      show (if (lsl (undoE s.1 t).log).own p = t then (lsl (undoE s.1 t).log).vl p else (lsl (undoE s.1 t).log).cm p) = _
      split
      · rename_i e
        have := (ki _ u.lg).k2 p (by omega)
        rw [e, u.cp.st] at this
        exact this.2
      · rfl
    · obtain ⟨X, x1⟩ := h.pre
      exact ⟨X ++ (Y ++ [⟨3, t, 0, 0, 0⟩]), by show (undoE s.1 t).log ++ [⟨3, t, 0, 0, 0⟩] = _; rw [y1, x1]; simp⟩
    · have hr : r ∈ (undoE s.1 t).log ++ [⟨3, t, 0, 0, 0⟩] := hr
      have hk2 : t ≤ la ∧ ∃ j, j < L.length ∧ rgT L j = t := by
        obtain ⟨X, x1⟩ := h.pre
        have hmm : L[k] ∈ s.1.log := by rw [x1]; exact List.mem_append_left _ (List.getElem_mem hk)
        have := (h.src _ hmm).1
        rw [rg_at L k hk] at this
        exact ⟨by rw [← hT]; exact this, k, hk, hT⟩
      rw [y1] at hr
      rcases List.mem_append.1 hr with e | e
      · rcases List.mem_append.1 e with e | e
        · exact h.src r e
        · rw [(y2 r e).2]; exact hk2
      · rw [List.mem_singleton.1 e]; exact hk2
    · show q ∈ t :: s.2 ↔ (lsl ((undoE s.1 t).log ++ [⟨3, t, 0, 0, 0⟩])).en q = true
      rw [lsl_snoc, e1, List.mem_cons, h.vs]
      show _ ↔ upd (lsl (undoE s.1 t).log).en t true q = true
      rw [u.cp.en]
      by_cases e : q = t
      · rw [e, upd_same]; simp
      · rw [upd_other _ _ _ e]; simp [e]
    · rcases Nat.lt_or_ge j k with e | e
      · exact List.mem_cons_of_mem _ (h.dn j e)
      · obtain rfl : j = k := by omega
        rw [hT]; exact List.mem_cons_self
theorem los_LI {L : List Rec} {c : Nat → Int} {la : Nat} {s : Eng × List Nat} (h : LI L c la s 0) (ht : ∀ j, j < L.length → 1 ≤ rgT L j) : ∀ k, k ≤ L.length → LI L c la (losK L s k) k
  | 0, _ => h
  | k + 1, hk => by
    rw [los_succ]
    exact (los_LI h ht k (by omega)).step (by omega) ht
theorem mem_rg {L : List Rec} {r : Rec} (h : r ∈ L) : ∃ j, j < L.length ∧ rgT L j = r.tx := by
  obtain ⟨j, hj, rfl⟩ := List.getElem_of_mem h
  refine ⟨j, hj, ?_⟩
  rw [rg_at L j hj]
theorem EI.crash {E : Eng} (h : EI E) : EI (crE E) ∧ (∀ p, (lsl (crE E).log).own p = 0) ∧ (lsl (crE E).log).cm = (lsl E.log).cm ∧ (crE E).act = [] ∧ (crE E).fl = (crE E).log.length ∧ (∀ r ∈ (crE E).log, (lsl (crE E).log).en r.tx = true) := by
  have hlg : LegL (lgE E) := h.lg.take _
  have hfl := h.fl
  have hlen : (lgE E).length = E.fl := by unfold lgE; rw [List.length_take]; omega
  have htx : ∀ j, j < (lgE E).length → 1 ≤ rgT (lgE E) j := fun j hj => by
    have := hlg.take (j + 1)
    rw [rg_take _ j hj] at this
    exact this.last.tx
  have hbuf : (cr1 E).buf = rp (lgE E) := by
    refine list_ext_at (by show (redoK _ _ _).length = 6; rw [redo_len]; exact h.dl) (rp_len _) fun p hp => ?_
    obtain ⟨d1, d2⟩ := h.dk p hp
    have := redo_at (lgE E) hlg E.dsk h.dl p hp (at_ E.dsk p).2 rfl (by rw [hlen]; exact d1) (by
      rw [d2]
      congr 2
      unfold lgE
      rw [List.take_take, ← d2]
      congr 1
      omega) (lgE E).length (Nat.le_refl _)
    show at_ (redoK (lgE E) E.dsk (lgE E).length) p = _
    rw [this, show max (lgE E).length (at_ E.dsk p).2 = (lgE E).length by omega, List.take_length]
  have S0 : LI (lgE E) (lsl E.log).cm E.last (cr1 E, endK (lgE E) (lgE E).length) 0 := by
    refine ⟨hlg, hbuf, ?_, ⟨[], (List.append_nil _).symm⟩, fun r hr => ⟨h.la r (List.mem_of_mem_take hr), mem_rg hr⟩, fun t => ?_, fun j hj => by omega⟩
    · show (lsl (lgE E)).cm = _
      exact h.cf E.fl (Nat.le_refl _) h.fl
    · have := end_en (lgE E) hlg (lgE E).length (Nat.le_refl _) t
      rw [List.take_length] at this
      exact this
  have S := los_LI S0 htx (lgE E).length (Nat.le_refl _)
  change LI (lgE E) (lsl E.log).cm E.last (cr2 E) (lgE E).length at S
  have hen : ∀ r ∈ (crE E).log, (lsl (crE E).log).en r.tx = true := fun r hr => by
    obtain ⟨_, j, hj, e⟩ := S.src r hr
    have := S.dn j hj
    rw [e] at this
    exact (S.vs _).1 this
  have hown : ∀ p, (lsl (crE E).log).own p = 0 := fun p => by
    rcases Nat.eq_zero_or_pos ((lsl (crE E).log).own p) with e | e
    · exact e
    · obtain ⟨r, r1, r2⟩ := own_src' (crE E).log p (by omega)
      have h1 := hen r r1
      have h2 := ((ki _ S.lg).k2 p (Nat.pos_iff_ne_zero.1 e)).1
      rw [r2] at h1
      have h1' : (lsl (cr2 E).1.log).en ((lsl (cr2 E).1.log).own p) = true := h1
      rw [h1'] at h2
      cases h2
  obtain ⟨X, x1⟩ := S.pre
  obtain ⟨⟨Z, z1, _, _⟩, _⟩ := los_inv (cr1 E) (endK (lgE E) (lgE E).length) (lgE E).length
  change Adds (cr1 E) (cr2 E).1 Z at z1
  have hact : (crE E).act = [] := z1.act
  refine ⟨⟨S.lg, S.bf, ?_, fun p hp => ?_, Nat.le_refl _, fun r hr => ?_, fun t ht => ?_, ?_, ?_, fun p hp => ?_, fun p hp => absurd (hown p) hp, fun m h1 h2 => ?_⟩, hown, S.cm, hact, rfl, hen⟩
  · show (cr2 E).1.dsk.length = 6
    rw [z1.dsk]; exact h.dl
  · obtain ⟨d1, d2⟩ := h.dk p hp
    show (at_ (cr2 E).1.dsk p).2 ≤ (cr2 E).1.log.length ∧ at_ (cr2 E).1.dsk p = at_ (rp ((cr2 E).1.log.take (at_ (cr2 E).1.dsk p).2)) p
    rw [z1.dsk]
    show (at_ E.dsk p).2 ≤ (cr2 E).1.log.length ∧ at_ E.dsk p = at_ (rp ((cr2 E).1.log.take (at_ E.dsk p).2)) p
    rw [x1, List.length_append]
    refine ⟨by omega, ?_⟩
    rw [List.take_append_of_le_length (by omega)]
    have : (lgE E).take (at_ E.dsk p).2 = E.log.take (at_ E.dsk p).2 := by
      unfold lgE
      rw [List.take_take]
      congr 1
      omega
    rw [this]
    exact d2
  · show r.tx ≤ (cr2 E).1.last
    rw [z1.last]
    exact (S.src r hr).1
  · rw [hact] at ht; cases ht
  · rw [hact]; exact List.nodup_nil
  · show (cr2 E).1.wri.length = 6
    rw [z1.wri]
    show (na0 E.dsk.length).length = 6
    rw [na0_len]; exact h.dl
  · rw [hown p]
    show (cr2 E).1.wri.getD p 0 = 0
    rw [z1.wri]
    show (na0 E.dsk.length).getD p 0 = 0
    unfold na0
    rw [List.getD_eq_getElem?_getD, List.getElem?_replicate]
    split <;> rfl
  · have h1 : (crE E).log.length ≤ m := h1
    rw [List.take_of_length_le h1]
end Go.Proofs.Ytjalpppmgoepiaa.Rv
