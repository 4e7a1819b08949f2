/- Recovery: Crash, plain. -/
import Derived.Test.YtjalpppmgoepiaaRvj
namespace Go.Proofs.Ytjalpppmgoepiaa.Rv
open Go Go.RowKit Hp
set_option linter.unusedVariables false

def rstep (l : List Rec) (b : List (Int × Nat)) (i : Nat) : List (Int × Nat) := if rgK l i = 3 then b else if (b.getD (rgP l i) (0, 0)).2 < i + 1 then b.set (rgP l i) (rgA l i, i + 1) else b
def redoK (l : List Rec) (b : List (Int × Nat)) (k : Nat) : List (Int × Nat) := (List.range k).foldl (rstep l) b
def estep (l : List Rec) (V : List Nat) (i : Nat) : List Nat := if rgK l i = 3 then rgT l i :: V else V
def endK (l : List Rec) (k : Nat) : List Nat := (List.range k).foldl (estep l) []
def lstep (l : List Rec) (s : Eng × List Nat) (i : Nat) : Eng × List Nat := if rgT l i ∈ s.2 then s else (appE (undoE s.1 (rgT l i)) ⟨3, rgT l i, 0, 0, 0⟩, rgT l i :: s.2)
def losK (l : List Rec) (s : Eng × List Nat) (k : Nat) : Eng × List Nat := (List.range k).foldl (lstep l) s
theorem redo_succ (l : List Rec) (b : List (Int × Nat)) (k : Nat) : redoK l b (k + 1) = rstep l (redoK l b k) k := by unfold redoK; rw [List.range_succ, List.foldl_append]; rfl
theorem end_succ (l : List Rec) (k : Nat) : endK l (k + 1) = estep l (endK l k) k := by unfold endK; rw [List.range_succ, List.foldl_append]; rfl
theorem los_succ (l : List Rec) (s : Eng × List Nat) (k : Nat) : losK l s (k + 1) = lstep l (losK l s k) k := by unfold losK; rw [List.range_succ, List.foldl_append]; rfl
theorem redo_len (l : List Rec) (b : List (Int × Nat)) (k : Nat) : (redoK l b k).length = b.length := by
  induction k with
  | zero => rfl
  | succ k ih =>
    rw [redo_succ]
    unfold rstep
    split
    · exact ih
    · split
      · rw [List.length_set]; exact ih
      · exact ih
def lgE (E : Eng) : List Rec := E.log.take E.fl
def cr0 (E : Eng) : Eng := { E with log := lgE E, buf := E.dsk, act := [], wri := na0 E.dsk.length }
def cr1 (E : Eng) : Eng := { cr0 E with buf := redoK (lgE E) E.dsk (lgE E).length }
def cr2 (E : Eng) : Eng × List Nat := losK (lgE E) (cr1 E, endK (lgE E) (lgE E).length) (lgE E).length
def crE (E : Eng) : Eng := { (cr2 E).1 with fl := (cr2 E).1.log.length }
/-- The number of compensations that the crash has logged. -/
def cmp2 (l : List Rec) : Nat := (l.filter fun r => decide (r.kind = 2)).length
def undone (E : Eng) : Nat := cmp2 ((cr2 E).1.log.drop (lgE E).length)
/-! ### How long the log grows -/
/-- The updates of t. -/
def cnt (l : List Rec) (t : Nat) : Nat := l.countP fun r => decide (r.kind = 1) && decide (r.tx = t)
theorem cnt_app (l m : List Rec) (t : Nat) : cnt (l ++ m) t = cnt l t + cnt m t := by unfold cnt; rw [List.countP_append]
/-- No updates. -/
def NoUp (l : List Rec) : Prop := ∀ r ∈ l, r.kind ≠ 1
theorem cnt_noup {l : List Rec} (h : NoUp l) (t : Nat) : cnt l t = 0 := by
  unfold cnt
  rw [List.countP_eq_zero]
  intro r hr
  simp [h r hr]
/-- What undoing adds: compensations. -/
structure Adds (E E' : Eng) (X : List Rec) : Prop where
  log : E'.log = E.log ++ X
  dsk : E'.dsk = E.dsk
  fl : E'.fl = E.fl
  last : E'.last = E.last
  act : E'.act = E.act
  wri : E'.wri = E.wri
  buf : E'.buf.length = E.buf.length
theorem Adds.refl (E : Eng) : Adds E E [] := ⟨by simp, rfl, rfl, rfl, rfl, rfl, rfl⟩
theorem Adds.trans {E E' E'' : Eng} {X Y : List Rec} (h : Adds E E' X) (k : Adds E' E'' Y) : Adds E E'' (X ++ Y) :=
  ⟨by rw [k.log, h.log, List.append_assoc], k.dsk.trans h.dsk, k.fl.trans h.fl, k.last.trans h.last, k.act.trans h.act, k.wri.trans h.wri, k.buf.trans h.buf⟩
theorem Adds.app (E : Eng) (r : Rec) : Adds E (appE E r) [r] := ⟨rfl, rfl, rfl, rfl, rfl, rfl, appE_buf E r⟩
theorem und_adds (t : Nat) (E : Eng) : ∀ (l : List Rec) (S : Nat × Eng) (X : List Rec), Adds E S.2 X → (∀ r ∈ X, r.kind = 2 ∧ r.tx = t) → ∃ Y, Adds E (l.foldl (ustep t) S).2 Y ∧ (∀ r ∈ Y, r.kind = 2 ∧ r.tx = t) ∧ Y.length ≤ X.length + cnt l t
  | [], S, X, h, hx => ⟨X, h, hx, Nat.le_add_right _ _⟩
  | r :: l, S, X, h, hx => by
    have hc : cnt (r :: l) t = cnt [r] t + cnt l t := cnt_app [r] l t
    rw [List.foldl_cons, hc]
    by_cases hu : r.kind = 1 ∧ r.tx = t ∧ ¬ 0 < S.1
    · obtain ⟨h1, h2, h3⟩ := hu
      have e : ustep t S r = (0, appE S.2 ⟨2, t, r.page, r.after, r.before⟩) := by unfold ustep; rw [if_neg (by omega), if_neg (by omega), if_pos h1, if_neg h3]
      rw [e]
      obtain ⟨Y, y1, y2, y3⟩ := und_adds t E l (0, appE S.2 ⟨2, t, r.page, r.after, r.before⟩) (X ++ [⟨2, t, r.page, r.after, r.before⟩]) (h.trans (Adds.app _ _)) (fun q hq => by
        rcases List.mem_append.1 hq with k | k
        · exact hx q k
        · rw [List.mem_singleton.1 k]; exact ⟨rfl, rfl⟩)
      refine ⟨Y, y1, y2, ?_⟩
      have : cnt [r] t = 1 := by unfold cnt; simp [h1, h2]
      simp only [List.length_append, List.length_singleton] at y3
      omega
    · have e : (ustep t S r).2 = S.2 := by
        unfold ustep
        split
        · rfl
        · split
          · rfl
          · split
            · split
              · rfl
              · exact absurd ⟨by assumption, by omega, by assumption⟩ hu
            · rfl
      obtain ⟨Y, y1, y2, y3⟩ := und_adds t E l (ustep t S r) X (by rw [e]; exact h) hx
      exact ⟨Y, y1, y2, by omega⟩
theorem undo_adds (E : Eng) (t : Nat) : ∃ Y, Adds E (undoE E t) Y ∧ (∀ r ∈ Y, r.kind = 2 ∧ r.tx = t) ∧ Y.length ≤ cnt E.log t := by
  obtain ⟨Y, y1, y2, y3⟩ := und_adds t E E.log.reverse (0, E) [] (Adds.refl E) (fun r hr => by cases hr)
  refine ⟨Y, y1, y2, ?_⟩
  have : cnt E.log.reverse t = cnt E.log t := by unfold cnt; exact List.countP_reverse
  simp only [List.length_nil] at y3
  omega
/-- The sum of the updates of distinct transactions. -/
def sumC (l : List Rec) (V : List Nat) : Nat := (V.map (cnt l)).sum
theorem sumC_le (l : List Rec) : ∀ V : List Nat, V.Nodup → sumC l V ≤ l.length := by
  induction l with
  | nil =>
    intro V _
    unfold sumC
    have : ∀ V : List Nat, (V.map (cnt [])).sum = 0 := fun V => by
      induction V with
      | nil => rfl
      | cons v V ih => rw [List.map_cons, List.sum_cons, ih]; rfl
    rw [this]
    simp
  | cons r l ih =>
    intro V hV
    have h1 := ih V hV
    have : ∀ V : List Nat, V.Nodup → sumC (r :: l) V ≤ sumC l V + (if r.tx ∈ V then 1 else 0) := by
      intro V
      induction V with
      | nil => intro _; simp [sumC]
      | cons v V ihV =>
        intro hn
        obtain ⟨a1, a2⟩ := List.nodup_cons.1 hn
        have b := ihV a2
        have c : cnt (r :: l) v ≤ cnt l v + (if r.tx = v then 1 else 0) := by
          have : cnt (r :: l) v = cnt [r] v + cnt l v := cnt_app [r] l v
          rw [this]
          have : cnt [r] v ≤ if r.tx = v then 1 else 0 := by
            unfold cnt
            by_cases e : r.tx = v
            · rw [if_pos e]; exact Nat.le_trans List.countP_le_length (by simp)
            · rw [if_neg e]; simp [e]
          omega
        unfold sumC at *
        simp only [List.map_cons, List.sum_cons, List.mem_cons]
        by_cases e : r.tx = v
        · rw [if_pos e] at c
          rw [if_pos (.inl e)]
          rw [if_neg (by rw [e]; exact a1)] at b
          omega
        · rw [if_neg e] at c
          by_cases e2 : r.tx ∈ V
          · rw [if_pos e2] at b
            rw [if_pos (.inr e2)]
            omega
          · rw [if_neg e2] at b
            rw [if_neg (by simp [e, e2])]
            omega
    have h2 := this V hV
    simp only [List.length_cons]
    split at h2 <;> omega
/-- The loop that undoes the losers: what it has added. -/
structure LosI (E : Eng) (l : List Rec) (V0 : List Nat) (s : Eng × List Nat) (k : Nat) : Prop where
  adds : ∃ X, Adds E s.1 X ∧ NoUp X ∧ X.length ≤ sumC l (s.2.take (s.2.length - V0.length)) + (s.2.length - V0.length)
  vs : ∃ V, s.2 = V ++ V0 ∧ V.Nodup ∧ V.length ≤ k ∧ ∀ t ∈ V, t ∉ V0
theorem los_inv (E : Eng) (V0 : List Nat) : ∀ k, LosI E E.log V0 (losK E.log (E, V0) k) k
  | 0 => ⟨⟨[], Adds.refl E, fun r hr => (by cases hr), by simp⟩, [], rfl, List.nodup_nil, Nat.le_refl _, fun t ht => (by cases ht)⟩
  | k + 1 => by
    obtain ⟨⟨X, x1, x2, x3⟩, V, v1, v2, v3, v4⟩ := los_inv E V0 k
    rw [los_succ]
    unfold lstep
    split
    · exact ⟨⟨X, x1, x2, x3⟩, V, v1, v2, by omega, v4⟩
    · rename_i hn
      generalize losK E.log (E, V0) k = s at *
      generalize rgT E.log k = t at *
      obtain ⟨Y, y1, y2, y3⟩ := undo_adds s.1 t
      have hc : cnt s.1.log t = cnt E.log t := by rw [x1.log, cnt_app, cnt_noup x2]; rfl
      rw [hc] at y3
      rw [v1] at x3 hn
      have e1 : (V ++ V0).length - V0.length = V.length := by rw [List.length_append]; omega
      rw [e1, List.take_left] at x3
      refine ⟨⟨X ++ (Y ++ [⟨3, t, 0, 0, 0⟩]), x1.trans (y1.trans (Adds.app _ _)), fun r hr => ?_, ?_⟩, t :: V, by rw [v1]; rfl, List.nodup_cons.2 ⟨fun e => hn (List.mem_append_left _ e), v2⟩, by simp; omega, fun q hq => ?_⟩
      · rcases List.mem_append.1 hr with h | h
        · exact x2 r h
        · rcases List.mem_append.1 h with h | h
          · have := (y2 r h).1; omega
          · rw [List.mem_singleton.1 h]; show (3 : Nat) ≠ 1; omega
      · show _ ≤ sumC E.log ((t :: s.2).take ((t :: s.2).length - V0.length)) + ((t :: s.2).length - V0.length)
        rw [v1, show t :: (V ++ V0) = (t :: V) ++ V0 from rfl, show ((t :: V) ++ V0).length - V0.length = (t :: V).length by rw [List.length_append]; omega, List.take_left]
        have z1 : sumC E.log (t :: V) = cnt E.log t + sumC E.log V := rfl
        rw [z1]
        simp only [List.length_append, List.length_cons, List.length_nil]
        omega
      · rcases List.mem_cons.1 hq with rfl | hq
        · exact fun e => hn (List.mem_append_right _ e)
        · exact v4 q hq
theorem los_len (E : Eng) (V0 : List Nat) (k : Nat) (hk : k ≤ E.log.length) : (losK E.log (E, V0) k).1.log.length ≤ 3 * E.log.length ∧ (losK E.log (E, V0) k).1.buf.length = E.buf.length ∧ ∃ X, (losK E.log (E, V0) k).1.log = E.log ++ X ∧ NoUp X := by
  obtain ⟨⟨X, x1, x2, x3⟩, V, v1, v2, v3, v4⟩ := los_inv E V0 k
  refine ⟨?_, x1.buf, X, x1.log, x2⟩
  rw [v1, show (V ++ V0).length - V0.length = V.length by rw [List.length_append]; omega, List.take_left] at x3
  have := sumC_le E.log V v2
  rw [x1.log, List.length_append]
  omega
end Go.Proofs.Ytjalpppmgoepiaa.Rv
