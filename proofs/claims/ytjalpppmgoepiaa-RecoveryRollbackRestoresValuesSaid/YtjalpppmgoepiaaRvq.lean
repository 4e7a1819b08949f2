/- Recovery: Rollback and Crash keep the invariant. -/
import Derived.Test.YtjalpppmgoepiaaRvp
namespace Go.Proofs.Ytjalpppmgoepiaa.Rv
open Go Go.RowKit Hp
set_option linter.unusedVariables false

theorem cm_k2 (l : List Rec) : ∀ Y : List Rec, (∀ r ∈ Y, r.kind = 2) → (lsl (l ++ Y)).cm = (lsl l).cm := fun Y => by
  refine snoc_induct (P := fun Y => (∀ r ∈ Y, r.kind = 2) → (lsl (l ++ Y)).cm = (lsl l).cm) (fun _ => by rw [List.append_nil]) (fun Y r ih h => ?_) Y
  rw [← List.append_assoc, lsl_snoc, (comp_one (h r (by simp))).2.1]
  exact ih fun q hq => h q (List.mem_append_left _ hq)
/-- What undoing a transaction does. -/
structure Und (E E' : Eng) (t : Nat) : Prop where
  lg : LegL E'.log
  bf : E'.buf = rp E'.log
  cp : Comp t (lsl E.log) (lsl E'.log)
  lx : ∃ X, E'.log = E.log ++ X ∧ ∀ r ∈ X, r.kind = 2 ∧ r.tx = t
  rest : E'.dsk = E.dsk ∧ E'.fl = E.fl ∧ E'.last = E.last ∧ E'.act = E.act ∧ E'.wri = E.wri
theorem und (E : Eng) (t : Nat) (ht : 1 ≤ t) (h1 : LegL E.log) (h2 : E.buf = rp E.log) (h3 : (lsl E.log).en t = false) : Und E (undoE E t) t := by
  obtain ⟨X, x1, x2, x3⟩ := undo_is E t
  obtain ⟨Y, y1, _, _⟩ := undo_adds E t
  obtain ⟨c1, c2, c3, c4⟩ := comps t ht X E h1 h2 h3 x2 x3
  rw [← x1] at c1 c2 c3 c4
  exact ⟨c1, c2, c3, ⟨X, c4, x3⟩, y1.dsk, y1.fl, y1.last, y1.act, y1.wri⟩
theorem EI.undo {E : Eng} (h : EI E) {t : Nat} (ht : t ∈ E.act) : EI (undoE E t) ∧ Und E (undoE E t) t := by
  obtain ⟨a1, a2, a3⟩ := h.ac t ht
  have u := und E t a1 h.lg h.bf a3
  obtain ⟨X, x1, x2⟩ := u.lx
  obtain ⟨r1, r2, r3, r4, r5⟩ := u.rest
  refine ⟨⟨u.lg, u.bf, by rw [r1]; exact h.dl, fun p hp => ?_, ?_, fun r hr => ?_, fun q hq => ?_, by rw [r4]; exact h.nd, by rw [r5]; exact h.wl, fun p hp => ?_, fun p hp => ?_, fun m h1 h2 => ?_⟩, u⟩
  · obtain ⟨b1, b2⟩ := h.dk p hp
    rw [r1, r2]
    refine ⟨b1, ?_⟩
    rw [x1, List.take_append_of_le_length (Nat.le_trans b1 h.fl)]
    exact b2
  · rw [r2, x1, List.length_append]
    have := h.fl
    omega
  · rw [x1] at hr
    rw [r3]
    rcases List.mem_append.1 hr with k | k
    · exact h.la r k
    · rw [(x2 r k).2]; exact a2
  · rw [r4] at hq
    obtain ⟨b1, b2, b3⟩ := h.ac q hq
    exact ⟨b1, by rw [r3]; exact b2, by rw [u.cp.en]; exact b3⟩
  · rw [r5, u.cp.own]; exact h.wr p hp
  · rw [u.cp.own] at hp ⊢
    rw [r4]
    exact h.oa p hp
  · rw [r2] at h1
    rw [u.cp.cm]
    rcases Nat.lt_or_ge E.log.length m with k | k
    · rw [x1, List.take_append, List.take_of_length_le (by omega), cm_k2 _ _ fun r hr => (x2 r (List.mem_of_mem_take hr)).1]
    · rw [x1, List.take_append_of_le_length k]
      exact h.cf m h1 k
theorem EI.rollback {E : Eng} (h : EI E) {t : Nat} (ht : t ∈ E.act) : EI (rolE E t) ∧ (lsl (rolE E t).log).own = (fun p => if (lsl E.log).own p = t then 0 else (lsl E.log).own p) ∧ (lsl (rolE E t).log).cm = (lsl E.log).cm ∧ (∀ p, (lsl (rolE E t).log).vl p = if (lsl E.log).own p = t then (lsl E.log).cm p else (lsl E.log).vl p) := by
  obtain ⟨a1, a2, a3⟩ := h.ac t ht
  obtain ⟨e1, u⟩ := h.undo ht
  have hv : ∀ p, (lsl (undoE E t).log).own p = t → (lsl (undoE E t).log).vl p = (lsl (undoE E t).log).cm p := fun p hp => by
    have := (ki _ u.lg).k2 p (by omega)
    rw [hp, u.cp.st] at this
    exact this.2
  obtain ⟨f1, f2, f3, f4⟩ := e1.fin (E' := rolE E t) (t := t) (by rw [u.rest.2.2.2.1]; exact ht) (.inl ⟨rfl, hv⟩) rfl
  refine ⟨f1, by rw [f2, u.cp.own], ?_, fun p => ?_⟩
  · rw [f3]
    funext p
    split
    · rename_i e; rw [hv p e, u.cp.cm]
    · rw [u.cp.cm]
  · rw [f4]
    split
    · rename_i e; rw [hv p (by rw [u.cp.own]; exact e), u.cp.cm]
    · rename_i e; exact u.cp.vo p e
/-! ### Begin, and the flushes -/
theorem EI.begin {E : Eng} (h : EI E) : EI { E with last := E.last + 1, act := E.act ++ [E.last + 1] } := by
  have he : (lsl E.log).en (E.last + 1) = false := by
    have : ∀ (l : List Rec), (∀ r ∈ l, r.tx ≤ E.last) → (lsl l).en (E.last + 1) = false := fun l => snoc_induct (P := fun l => (∀ r ∈ l, r.tx ≤ E.last) → (lsl l).en (E.last + 1) = false) (fun _ => rfl) (fun l r ih hl => by
      rw [lsl_snoc]
      have ih := ih fun q hq => hl q (List.mem_append_left _ hq)
      have h2 := hl r (by simp)
      unfold lst
      split
      · exact ih
      · split
        · exact ih
        · show upd (lsl l).en r.tx true (E.last + 1) = false
          rw [upd_other _ _ _ (by omega)]
          exact ih) l
    exact this E.log h.la
  refine ⟨h.lg, h.bf, h.dl, h.dk, h.fl, fun r hr => Nat.le_succ_of_le (h.la r hr), fun t ht => ?_, ?_, h.wl, h.wr, fun p hp => List.mem_append_left _ (h.oa p hp), h.cf⟩
  · rcases List.mem_append.1 ht with k | k
    · obtain ⟨b1, b2, b3⟩ := h.ac t k
      exact ⟨b1, Nat.le_succ_of_le b2, b3⟩
    · rw [List.mem_singleton.1 k]
      exact ⟨by omega, Nat.le_refl _, he⟩
  · refine List.nodup_append.2 ⟨h.nd, by simp, fun a ha b hb => ?_⟩
    rw [List.mem_singleton.1 hb]
    have := (h.ac a ha).2.1
    omega
theorem EI.flog {E : Eng} (h : EI E) (n : Nat) : EI { E with fl := min E.log.length (E.fl + n) } := by
  have h1 := h.fl
  have h2 : E.fl ≤ min E.log.length (E.fl + n) := by omega
  exact ⟨h.lg, h.bf, h.dl, fun p hp => ⟨Nat.le_trans (h.dk p hp).1 h2, (h.dk p hp).2⟩, Nat.min_le_left _ _, h.la, h.ac, h.nd, h.wl, h.wr, h.oa, fun m a b => h.cf m (Nat.le_trans h2 a) b⟩
theorem EI.fpage {E : Eng} (h : EI E) {i : Nat} (hi : i < 6) : EI { E with fl := max E.fl (at_ E.buf i).2, dsk := E.dsk.set i (at_ E.buf i) } := by
  have h2 : E.fl ≤ max E.fl (at_ E.buf i).2 := Nat.le_max_left _ _
  obtain ⟨l1, l2⟩ := rp_lsn E.log h.lg i
  rw [← h.bf] at l1 l2
  have h1 := h.fl
  refine ⟨h.lg, h.bf, by show (E.dsk.set i _).length = 6; rw [List.length_set]; exact h.dl, fun p hp => ?_, by show max E.fl (at_ E.buf i).2 ≤ E.log.length; omega, h.la, h.ac, h.nd, h.wl, h.wr, h.oa, fun m a b => h.cf m (Nat.le_trans h2 a) b⟩
  show (at_ (E.dsk.set i (at_ E.buf i)) p).2 ≤ max E.fl (at_ E.buf i).2 ∧ at_ (E.dsk.set i (at_ E.buf i)) p = at_ (rp (E.log.take (at_ (E.dsk.set i (at_ E.buf i)) p).2)) p
  rw [at_set _ _ _ (by rw [h.dl]; exact hi)]
  by_cases e : p = i
  · rw [if_pos e]
    refine ⟨Nat.le_max_right _ _, ?_⟩
    rw [e]
    exact l2.symm
  · rw [if_neg e]
    exact ⟨Nat.le_trans (h.dk p hp).1 h2, (h.dk p hp).2⟩
end Go.Proofs.Ytjalpppmgoepiaa.Rv
