/- Replication in plain words: somebody can be elected; a new leader's entry. -/
import Derived.Test.YthhkekmeginooaaRqh
namespace Go.Proofs.Ythhkekmeginooaa.Rp
open Go Go.RowKit Hp
set_option linter.unusedVariables false

theorem newer_iff (a b : Lg) : newer a b = true ↔ lastT b < lastT a ∨ (lastT a = lastT b ∧ b.length < a.length) := by
  unfold newer
  split
  · rename_i h
    rw [decide_eq_true_eq]
    exact ⟨fun e => .inr ⟨h, e⟩, fun e => e.elim (fun e => by omega) fun e => e.2⟩
  · rename_i h
    rw [decide_eq_true_eq]
    exact ⟨fun e => .inl e, fun e => e.elim id fun e => absurd e.1 h⟩
theorem best (f : Nat → Lg) : ∀ n, 1 ≤ n → ∃ i, i < n ∧ ∀ v, v < n → newer (f v) (f i) = false
  | 0, h => by omega
  | 1, _ => ⟨0, by omega, fun v hv => by
    obtain rfl : v = 0 := by omega
    rw [Bool.eq_false_iff]
    intro e
    have := (newer_iff _ _).1 e
    omega⟩
  | n + 2, _ => by
    obtain ⟨i, hi, h⟩ := best f (n + 1) (by omega)
    have hh : ∀ v, v < n + 1 → ¬ (lastT (f i) < lastT (f v) ∨ (lastT (f v) = lastT (f i) ∧ (f i).length < (f v).length)) := fun v hv e => by
      have := h v hv
      rw [(newer_iff _ _).2 e] at this
      cases this
    cases hb : newer (f (n + 1)) (f i) with
    | false =>
      refine ⟨i, by omega, fun v hv => ?_⟩
      rcases Nat.lt_or_ge v (n + 1) with e | e
      · exact h v e
      · obtain rfl : v = n + 1 := by omega
        exact hb
    | true =>
      have hb2 := (newer_iff _ _).1 hb
      refine ⟨n + 1, by omega, fun v hv => ?_⟩
      rw [Bool.eq_false_iff]
      intro e
      have e2 := (newer_iff _ _).1 e
      rcases Nat.lt_or_ge v (n + 1) with e1 | e1
      · have := hh v e1; omega
      · obtain rfl : v = n + 1 := by omega
        omega
theorem othS_mem {i : Nat} {acc : List Nat} {v u : Nat} (h : u ∈ acc ∨ (u = v ∧ u ≠ i)) : u ∈ othS i acc v := by
  unfold othS
  split
  · rename_i hh
    rcases h with h | ⟨rfl, h⟩
    · exact h
    · exact hh.resolve_left h
  · rcases h with h | ⟨rfl, h⟩
    · exact List.mem_append_left _ h
    · exact List.mem_append_right _ (List.mem_singleton.2 rfl)
theorem oth_mem {i u : Nat} {V : List Nat} (hu : u ∈ V) (hne : u ≠ i) : u ∈ oth i V := by
  unfold oth
  suffices ∀ (V acc : List Nat), (u ∈ acc ∨ u ∈ V) → u ∈ V.foldl (othS i) acc from this V [] (.inr hu)
  intro V
  induction V with
  | nil => intro acc h; exact h.resolve_right (fun e => by cases e)
  | cons v V ih =>
    intro acc h
    refine ih (othS i acc v) ?_
    rcases h with h | h
    · exact .inl (othS_mem (.inl h))
    · rcases List.mem_cons.1 h with e | e
      · exact .inl (othS_mem (.inr ⟨e, hne⟩))
      · exact .inr e
theorem range_lt (n : Nat) : ∀ v ∈ List.range n, v < n := fun v hv => List.mem_range.1 hv
theorem oth_all {n i : Nat} (hi : i < n) : n ≤ (oth i (List.range n)).length + 1 := by
  have := nodup_sub (List.range n) (i :: oth i (List.range n)) List.nodup_range fun v hv => by
    by_cases e : v = i
    · rw [e]; exact List.mem_cons_self ..
    · exact List.mem_cons_of_mem _ (oth_mem hv e)
  rw [List.length_range, List.length_cons] at this
  exact this
/-- Where no election succeeds all terms are used. -/
theorem elect_can (C : Clu) (h1 : 1 ≤ C.srv.length) (hno : ∀ i, i < C.srv.length → ¬ C.electE i (List.range C.srv.length) = 0) : 60 < C.lead.length := by
  obtain ⟨i, hi, hb⟩ := best (fun v => (C.s v).log) C.srv.length h1
  rcases Nat.lt_or_ge 60 C.lead.length with h | h
  · exact h
  · exfalso
    refine hno i hi ?_
    have hw : C.wins i (List.range C.srv.length) = true := List.all_eq_true.2 fun v hv => by
      rw [hb v ((oth_ok (i := i) (range_lt C.srv.length)).2.2.1 v hv)]; rfl
    unfold Clu.electE
    rw [if_neg (by have := oth_all hi; omega), if_pos hw, if_neg (by omega)]
section
variable {C : Clu} {ld : Nat} {y : ByteArray}
theorem won_all (hld : ld < C.srv.length) (v : Nat) (hv : v < C.srv.length) : ((C.won ld (List.range C.srv.length)).s v).term = C.lead.length := by
  rw [won_s C ld _ hld (range_lt _)]
  by_cases e : v = ld
  · rw [if_pos e]
  · rw [if_neg e, if_pos (oth_mem (List.mem_range.2 hv) e)]
theorem won_isL (hld : ld < C.srv.length) : (C.won ld (List.range C.srv.length)).isL ld = true := by
  unfold Clu.isL
  rw [won_all hld ld hld]
  refine decide_eq_true ?_
  have hl : (C.won ld (List.range C.srv.length)).lead = C.lead ++ [ld] := (elts_n (oth ld (List.range C.srv.length) ++ [ld]) ({ C with lead := C.lead ++ [ld] } : Clu) C.lead.length).2.1
  unfold Clu.ld
  rw [hl]
  simp [List.getD]
/-- A leader of the latest term, whom all servers have elected, has appended an entry. -/
theorem Pg.start (h : OkE C) (hs : NetS C) (hld : ld < C.srv.length) (h0 : C.electE ld (List.range C.srv.length) = 0) (W : Clu) (hW : W = C.won ld (List.range C.srv.length)) (ha : W.appE ld = 0) :
    ∃ LL ack, Pg (W.appC ld y) LL ack ld C.lead.length ((W.s ld).log ++ [⟨C.lead.length, y⟩]) ∧ Stg (W.appC ld y) ld C.lead.length ((W.s ld).log ++ [⟨C.lead.length, y⟩]) 0 := by
  obtain ⟨LL, ack, ok⟩ := h
  obtain ⟨ack1, x1, hl1⟩ := ok.won ld hld _ (range_lt _) h0
  have hterm := fun v hv => won_all (C := C) hld v hv
  have hiL := won_isL (C := C) hld
  have hmat : (W.s ld).mat = List.replicate C.srv.length 0 := by rw [hW, won_s C ld _ hld (range_lt _), if_pos rfl]
  have hnet := (Next.elect C ld hld _ (range_lt _)).net hs
  unfold Clu.electC at hnet
  rw [if_pos h0] at hnet
  rw [← hW] at x1 hl1 hterm hiL hnet
  clear hW
  have hn : W.srv.length = C.srv.length := x1.n
  have hlen : (W.s ld).log.length < 60 := by
    unfold Clu.appE at ha
    rw [if_pos hiL] at ha
    rcases Nat.lt_or_ge (W.s ld).log.length 60 with h | h
    · exact h
    · rw [if_neg (by omega)] at ha; cases ha
  have hld2 : ld < W.srv.length := by rw [hn]; exact hld
  obtain ⟨LL2, ack2, x2, hLL2⟩ := x1.ok.app ld hld2 hiL hlen y
  have happ : W.appC ld y = W.app ld y := by unfold Clu.appC; rw [if_pos ⟨hiL, hlen⟩]
  rw [hterm ld hld] at hLL2
  have hsv : ∀ v, (W.app ld y).s v = if v = ld then ({ W.s ld with log := (W.s ld).log ++ [⟨(W.s ld).term, y⟩] } : Srv).adv ld else W.s v := fun v => by
    unfold Clu.app
    rw [put_s _ _ _ hld2]
    rfl
  have hT : (W.s ld).term = C.lead.length := hterm ld hld
  rw [happ]
  have hP : Pg (W.app ld y) LL2 ack2 ld C.lead.length ((W.s ld).log ++ [⟨C.lead.length, y⟩]) := {
    ok := x2.ok
    small := hnet
    ldn := by rw [x2.n]; exact hld2
    tl := by
      show W.lead.length = _
      rw [hl1, List.length_append, List.length_singleton]
    ldT := by
      show W.ld _ = _
      unfold Clu.ld
      rw [hl1]
      simp [List.getD]
    term := fun v hv => by
      rw [hsv]
      split
      · rw [(adv_same _ _).1]; exact hT
      · exact hterm v (by rw [← hn, ← x2.n]; exact hv)
    eL := by rw [hLL2, updL_at]
    last := ⟨⟨C.lead.length, y⟩, by simp, rfl⟩ }
  refine ⟨LL2, ack2, hP, fun j _ _ => .inl (by omega), fun hr => .inl ?_, fun hr => by omega⟩
  have hn1 : C.srv.length = 1 := by
    rcases hr with hr | hr
    · omega
    · rw [x2.n, hn] at hr; exact hr
  rw [hsv, if_pos rfl]
  have key := adv_full ({ W.s ld with log := (W.s ld).log ++ [⟨(W.s ld).term, y⟩] } : Srv) ld 1 (by show (W.s ld).mat.length = 1; rw [hmat, List.length_replicate]; exact hn1) (by omega) (fun j hj hjl => by omega) (fun j hj => by
    show (W.s ld).mat.getD j 0 ≤ _
    rw [hmat]
    simp only [List.getD]
    rw [List.getElem?_replicate]
    split <;> exact Nat.zero_le _) ⟨⟨(W.s ld).term, y⟩, by simp, rfl⟩
  have e : (({ W.s ld with log := (W.s ld).log ++ [⟨(W.s ld).term, y⟩] } : Srv)).log.length = ((W.s ld).log ++ [(⟨C.lead.length, y⟩ : Ent)]).length := by
    show ((W.s ld).log ++ [_]).length = _
    rw [List.length_append, List.length_append]; rfl
  rw [e] at key
  exact key
end
end Go.Proofs.Ythhkekmeginooaa.Rp
