/- Recovery: what a run of the law keeps, plain. -/
import Derived.Test.YtjalpppmgoepiaaRvr
namespace Go.Proofs.Ytjalpppmgoepiaa.Rv
open Go Go.RowKit Hp
set_option linter.unusedVariables false

def sumA (l : List Rec) (A : List Nat) : Nat := (A.map fun t => cnt l t + 1).sum
theorem sumA_nil (l : List Rec) : sumA l [] = 0 := rfl
theorem sumA_cons (l : List Rec) (t : Nat) (A : List Nat) : sumA l (t :: A) = cnt l t + 1 + sumA l A := by unfold sumA; rw [List.map_cons, List.sum_cons]
theorem sumA_app (l : List Rec) (A B : List Nat) : sumA l (A ++ B) = sumA l A + sumA l B := by unfold sumA; rw [List.map_append, List.sum_append]
theorem sumA_noup (l : List Rec) (X : List Rec) (hX : NoUp X) (A : List Nat) : sumA (l ++ X) A = sumA l A := by
  unfold sumA
  congr 1
  refine List.map_congr_left fun t _ => ?_
  rw [cnt_app, cnt_noup hX, Nat.add_zero]
theorem cnt_one_le (r : Rec) (v : Nat) : cnt [r] v ≤ if r.tx = v then 1 else 0 := by
  unfold cnt
  by_cases e : r.tx = v
  · rw [if_pos e]; exact Nat.le_trans List.countP_le_length (by simp)
  · rw [if_neg e]; simp [e]
theorem sumA_snoc (l : List Rec) (r : Rec) : ∀ A : List Nat, A.Nodup → sumA (l ++ [r]) A ≤ sumA l A + if r.tx ∈ A then 1 else 0
  | [], _ => by simp [sumA]
  | v :: V, hn => by
    obtain ⟨a1, a2⟩ := List.nodup_cons.1 hn
    have b := sumA_snoc l r V a2
    have c := cnt_one_le r v
    rw [sumA_cons, sumA_cons, cnt_app]
    by_cases e : r.tx = v
    · rw [if_pos e] at c
      rw [if_neg (by rw [e]; exact a1)] at b
      rw [if_pos (by rw [e]; exact List.mem_cons_self)]
      omega
    · rw [if_neg e] at c
      by_cases e2 : r.tx ∈ V
      · rw [if_pos e2] at b
        rw [if_pos (List.mem_cons_of_mem _ e2)]
        omega
      · rw [if_neg e2] at b
        rw [if_neg (by simp [e, e2])]
        omega
theorem keep_cons (t x : Nat) (A : List Nat) : keepC t (x :: A) = if x = t then keepC t A else x :: keepC t A := by
  unfold keepC oldC
  rw [List.filter_cons]
  by_cases e : x = t <;> simp [e]
theorem sumA_keep (l : List Rec) (t : Nat) : ∀ A : List Nat, A.Nodup → t ∈ A → sumA l (keepC t A) + (cnt l t + 1) = sumA l A
  | [], _, h => by cases h
  | x :: A, hn, h => by
    obtain ⟨a1, a2⟩ := List.nodup_cons.1 hn
    rw [keep_cons, sumA_cons]
    by_cases e : x = t
    · rw [if_pos e]
      have : keepC t A = A := by
        unfold keepC
        rw [List.filter_eq_self]
        intro q hq
        have : q ≠ t := fun e2 => a1 (by rw [e, ← e2]; exact hq)
        simp [oldC, this]
      rw [this, e]
      omega
    · rw [if_neg e, sumA_cons]
      have := sumA_keep l t A a2 ((List.mem_cons.1 h).resolve_left (fun e2 => e e2.symm))
      omega
theorem mem_keep (t q : Nat) (A : List Nat) : q ∈ keepC t A ↔ q ∈ A ∧ q ≠ t := by unfold keepC oldC; simp
structure PI (E : Eng) (C : List Int) (A : List Nat) (g : Nat → Nat → Option Int) (k : Nat) : Prop where
  ei : EI E
  act : E.act = A
  cl : C.length = 6
  cm : ∀ p, p < 6 → C.getD p 0 = (lsl E.log).cm p
  g1 : ∀ t ∈ A, ∀ p, p < 6 → ∀ v, g t p = some v → (lsl E.log).own p = t ∧ (lsl E.log).vl p = v
  g2 : ∀ t ∈ A, ∀ p, p < 6 → (lsl E.log).own p = t → (g t p).isSome = true
  ph : E.log.length + sumA E.log A ≤ 2 * k
  la : E.last ≤ k
section
variable {E : Eng} {C : List Int} {A : List Nat} {g : Nat → Nat → Option Int} {k : Nat}
theorem PI.start : PI (newE 6) (List.replicate 6 0) [] (fun _ _ => none) 0 := by
  refine ⟨⟨LegL.nil, rfl, rfl, fun p hp => ?_, Nat.le_refl _, fun r hr => (by cases hr), fun t ht => (by cases ht), List.nodup_nil, rfl, fun p hp => ?_, fun p hp => absurd rfl hp, fun m _ h2 => ?_⟩, rfl, rfl, fun p hp => ?_, fun t ht => (by cases ht), fun t ht => (by cases ht), Nat.le_refl _, Nat.le_refl _⟩
  · have : at_ (newE 6).dsk p = (0, 0) := by
      show at_ (pg0 6) p = _
      unfold at_ pg0
      rw [List.getD_eq_getElem?_getD, List.getElem?_replicate]
      split <;> rfl
    rw [this]
    refine ⟨Nat.le_refl _, ?_⟩
    show _ = at_ (pg0 6) p
    exact this.symm
  · show (na0 6).getD p 0 = 0
    unfold na0
    rw [List.getD_eq_getElem?_getD, List.getElem?_replicate]
    split <;> rfl
  · have : m = 0 := by have : m ≤ 0 := h2; omega
    rw [this]
    rfl
  · rw [List.getD_eq_getElem?_getD, List.getElem?_replicate]
    split <;> rfl
theorem PI.succ (h : PI E C A g k) : PI E C A g (k + 1) := ⟨h.ei, h.act, h.cl, h.cm, h.g1, h.g2, by have := h.ph; omega, by have := h.la; omega⟩
theorem PI.begin (h : PI E C A g k) : PI { E with last := E.last + 1, act := E.act ++ [E.last + 1] } C (A ++ [E.last + 1]) (upd g (E.last + 1) fun _ => none) (k + 1) := by
  have hA : ∀ t ∈ A, t ≠ E.last + 1 := fun t ht e => by have := (h.ei.ac t (by rw [h.act]; exact ht)).2.1; omega
  refine ⟨h.ei.begin, by show E.act ++ _ = _; rw [h.act], h.cl, h.cm, fun t ht p hp v hv => ?_, fun t ht p hp ho => ?_, ?_, by show E.last + 1 ≤ k + 1; have := h.la; omega⟩
  · rcases List.mem_append.1 ht with e | e
    · rw [upd_other _ _ _ (hA t e)] at hv
      exact h.g1 t e p hp v hv
    · rw [List.mem_singleton.1 e, upd_same] at hv
      cases hv
  · rcases List.mem_append.1 ht with e | e
    · rw [upd_other _ _ _ (hA t e)]
      exact h.g2 t e p hp ho
    · exfalso
      have ho' : (lsl E.log).own p = t := ho
      rw [List.mem_singleton.1 e] at ho'
      have := h.ei.oa p (by omega)
      rw [ho'] at this
      have := (h.ei.ac _ this).2.1
      omega
  · show E.log.length + sumA E.log (A ++ [E.last + 1]) ≤ _
    have hc : cnt E.log (E.last + 1) = 0 := by
      unfold cnt
      rw [List.countP_eq_zero]
      intro r hr
      have := h.ei.la r hr
      simp
      omega
    have := h.ph
    rw [sumA_app, sumA_cons, sumA_nil, hc]
    omega
theorem PI.flog (h : PI E C A g k) (n : Nat) : PI { E with fl := min E.log.length (E.fl + n) } C A g k := ⟨h.ei.flog n, h.act, h.cl, h.cm, h.g1, h.g2, h.ph, h.la⟩
theorem PI.fpage (h : PI E C A g k) {i : Nat} (hi : i < 6) : PI { E with fl := max E.fl (at_ E.buf i).2, dsk := E.dsk.set i (at_ E.buf i) } C A g k := ⟨h.ei.fpage hi, h.act, h.cl, h.cm, h.g1, h.g2, h.ph, h.la⟩
theorem PI.write (h : PI E C A g k) {t pg : Nat} (ht : t ∈ A) (hp : pg < 6) (hb : bsy E t pg = false) (v : Int) : PI (wrE E t pg v) C A (upd g t (upd (g t) pg (some v))) (k + 1) := by
  obtain ⟨e1, e2, e3, e4⟩ := h.ei.write (by rw [h.act]; exact ht) hp hb v
  have hnd : A.Nodup := by rw [← h.act]; exact h.ei.nd
  have hL : (wrE E t pg v).log = E.log ++ [⟨1, t, pg, (at_ E.buf pg).1, v⟩] := rfl
  refine ⟨e1, h.act, h.cl, fun p hp => by rw [e3]; exact h.cm p hp, fun q hq p hp2 x hx => ?_, fun q hq p hp2 ho => ?_, ?_, by have : (wrE E t pg v).last = E.last := rfl; have := h.la; omega⟩
  · rw [e2, e4]
    by_cases eq : q = t
    · subst eq
      rw [upd_same] at hx
      by_cases ep : p = pg
      · subst ep
        rw [upd_same] at hx ⊢
        rw [upd_same]
        exact ⟨rfl, Option.some.inj hx⟩
      · rw [upd_other _ _ _ ep] at hx ⊢
        rw [upd_other _ _ _ ep]
        exact h.g1 q hq p hp2 x hx
    · rw [upd_other _ _ _ eq] at hx
      obtain ⟨a, b⟩ := h.g1 q hq p hp2 x hx
      have ep : p ≠ pg := fun e => by
        subst e
        unfold bsy at hb
        rw [h.ei.wr p hp, a] at hb
        have : 1 ≤ q := (h.ei.ac q (by rw [h.act]; exact hq)).1
        rw [decide_eq_true (show q ≠ 0 by omega), decide_eq_true eq] at hb
        cases hb
      rw [upd_other _ _ _ ep, upd_other _ _ _ ep]
      exact ⟨a, b⟩
  · rw [e2] at ho
    by_cases eq : q = t
    · subst eq
      rw [upd_same]
      by_cases ep : p = pg
      · rw [ep, upd_same]; rfl
      · rw [upd_other _ _ _ ep] at ho ⊢
        exact h.g2 q hq p hp2 ho
    · rw [upd_other _ _ _ eq]
      by_cases ep : p = pg
      · rw [ep, upd_same] at ho
        exact absurd ho.symm eq
      · rw [upd_other _ _ _ ep] at ho
        exact h.g2 q hq p hp2 ho
  · rw [hL, List.length_append]
    have := sumA_snoc E.log ⟨1, t, pg, (at_ E.buf pg).1, v⟩ A hnd
    have := h.ph
    split at * <;> simp only [List.length_cons, List.length_nil] <;> omega
theorem PI.commit (h : PI E C A g k) {t : Nat} (ht : t ∈ A) {C' : List Int} (hC : C'.length = 6) (hC2 : ∀ p, p < 6 → C'.getD p 0 = (g t p).getD (C.getD p 0)) : PI (comE E t) C' (keepC t A) g (k + 1) := by
  obtain ⟨e1, e2, e3, e4⟩ := h.ei.commit (t := t) (by rw [h.act]; exact ht)
  have hnd : A.Nodup := by rw [← h.act]; exact h.ei.nd
  have hL : (comE E t).log = E.log ++ [⟨3, t, 0, 0, 0⟩] := rfl
  have hA : (comE E t).act = keepC t A := by rw [← h.act]; show (finE E t).act = _; rw [fin_eq]
  refine ⟨e1, hA, hC, fun p hp => ?_, fun q hq p hp x hx => ?_, fun q hq p hp ho => ?_, ?_, by have : (comE E t).last = E.last := rfl; have := h.la; omega⟩
  · rw [hC2 p hp, e3]
    show _ = if (lsl E.log).own p = t then (lsl E.log).vl p else (lsl E.log).cm p
    by_cases eo : (lsl E.log).own p = t
    · rw [if_pos eo]
      obtain ⟨x, hx⟩ := Option.isSome_iff_exists.1 (h.g2 t ht p hp eo)
      rw [hx, (h.g1 t ht p hp x hx).2]
      rfl
    · rw [if_neg eo]
      cases hg : g t p with
      | none => exact h.cm p hp
      | some x => exact absurd (h.g1 t ht p hp x hg).1 eo
  · obtain ⟨q1, q2⟩ := (mem_keep t q A).1 hq
    obtain ⟨a, b⟩ := h.g1 q q1 p hp x hx
    rw [e2, e4]
    exact ⟨by show (if (lsl E.log).own p = t then 0 else (lsl E.log).own p) = q; rw [a, if_neg q2], b⟩
  · obtain ⟨q1, q2⟩ := (mem_keep t q A).1 hq
    rw [e2] at ho
    have ho' : (if (lsl E.log).own p = t then 0 else (lsl E.log).own p) = q := ho
    refine h.g2 q q1 p hp ?_
    by_cases eo : (lsl E.log).own p = t
    · rw [if_pos eo] at ho'
      have := (h.ei.ac q (by rw [h.act]; exact q1)).1
      omega
    · rw [if_neg eo] at ho'; exact ho'
  · rw [hL, sumA_noup _ _ (fun r hr => by rw [List.mem_singleton.1 hr]; show (3 : Nat) ≠ 1; omega), List.length_append]
    have := sumA_keep E.log t A hnd ht
    have := h.ph
    simp only [List.length_cons, List.length_nil]
    omega
theorem PI.rollback (h : PI E C A g k) {t : Nat} (ht : t ∈ A) : PI (rolE E t) C (keepC t A) g (k + 1) := by
  obtain ⟨e1, e2, e3, e4⟩ := h.ei.rollback (t := t) (by rw [h.act]; exact ht)
  have hnd : A.Nodup := by rw [← h.act]; exact h.ei.nd
  obtain ⟨Y, y1, y2, y3⟩ := undo_adds E t
  have hL : (rolE E t).log = E.log ++ (Y ++ [⟨3, t, 0, 0, 0⟩]) := by show (undoE E t).log ++ [_] = _; rw [y1.log, List.append_assoc]
  have hA : (rolE E t).act = keepC t A := by
    show (finE (undoE E t) t).act = _
    rw [fin_eq]
    show keepC t (undoE E t).act = _
    rw [y1.act, h.act]
  refine ⟨e1, hA, h.cl, fun p hp => by rw [e3]; exact h.cm p hp, fun q hq p hp x hx => ?_, fun q hq p hp ho => ?_, ?_, ?_⟩
  · obtain ⟨q1, q2⟩ := (mem_keep t q A).1 hq
    obtain ⟨a, b⟩ := h.g1 q q1 p hp x hx
    rw [e2, e4]
    exact ⟨by show (if (lsl E.log).own p = t then 0 else (lsl E.log).own p) = q; rw [a, if_neg q2], by rw [a, if_neg q2]; exact b⟩
  · obtain ⟨q1, q2⟩ := (mem_keep t q A).1 hq
    rw [e2] at ho
    have ho' : (if (lsl E.log).own p = t then 0 else (lsl E.log).own p) = q := ho
    refine h.g2 q q1 p hp ?_
    by_cases eo : (lsl E.log).own p = t
    · rw [if_pos eo] at ho'
      have := (h.ei.ac q (by rw [h.act]; exact q1)).1
      omega
    · rw [if_neg eo] at ho'; exact ho'
  · rw [hL, sumA_noup _ _ (fun r hr => by
      rcases List.mem_append.1 hr with e | e
      · have := (y2 r e).1; omega
      · rw [List.mem_singleton.1 e]; show (3 : Nat) ≠ 1; omega), List.length_append, List.length_append]
    have := sumA_keep E.log t A hnd ht
    have := h.ph
    simp only [List.length_cons, List.length_nil]
    omega
  · have : (rolE E t).last = E.last := y1.last
    have := h.la
    omega
end
/-! ### A second crash -/
theorem los_none (L : List Rec) (s : Eng × List Nat) (h : ∀ j, j < L.length → rgT L j ∈ s.2) : ∀ k, k ≤ L.length → losK L s k = s
  | 0, _ => rfl
  | k + 1, hk => by
    rw [los_succ, los_none L s h k (by omega)]
    unfold lstep
    rw [if_pos (h k (by omega))]
theorem crash_again {E : Eng} (h : EI E) (hfl : E.fl = E.log.length) (hen : ∀ r ∈ E.log, (lsl E.log).en r.tx = true) : undone E = 0 ∧ (crE E).log = E.log ∧ (crE E).buf = E.buf := by
  have hL : lgE E = E.log := by unfold lgE; rw [hfl, List.take_length]
  have hV : ∀ j, j < (lgE E).length → rgT (lgE E) j ∈ endK (lgE E) (lgE E).length := fun j hj => by
    have := end_en (lgE E) (by rw [hL]; exact h.lg) (lgE E).length (Nat.le_refl _) (rgT (lgE E) j)
    rw [List.take_length] at this
    rw [this]
    have hmm : ∀ r, r ∈ lgE E → r ∈ E.log := fun r hr => hL ▸ hr
    have h2 := hen _ (hmm _ (List.getElem_mem hj))
    rw [rg_at (lgE E) j hj] at h2
    rw [show lsl (lgE E) = lsl E.log by rw [hL]]
    exact h2
  have h2 : cr2 E = (cr1 E, endK (lgE E) (lgE E).length) := los_none (lgE E) _ hV _ (Nat.le_refl _)
  have hlog : (crE E).log = E.log := by
    show (cr2 E).1.log = _
    rw [h2]
    exact hL
  refine ⟨?_, hlog, ?_⟩
  · unfold undone
    rw [h2]
    show cmp2 ((lgE E).drop (lgE E).length) = 0
    rw [List.drop_length]
    rfl
  · have := h.crash.1.bf
    rw [this, hlog, ← h.bf]
end Go.Proofs.Ytjalpppmgoepiaa.Rv
