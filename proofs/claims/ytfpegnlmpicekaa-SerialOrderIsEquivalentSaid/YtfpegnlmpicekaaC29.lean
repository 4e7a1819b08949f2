/- SerialOrderIsEquivalent: what reads read from. -/
import Derived.Test.YtfpegnlmpicekaaC28
namespace Go.Proofs.Ytfpegnlmpicekaa.C
open Go Go.RowKit Hp
set_option linter.unusedVariables false

def rval (pre : List Hop) (x : Hop) : Int := if x.kind = 1 then lastw pre x.key else -1
def rds : List Hop → List Hop → Int → List Int
  | _, [], _ => []
  | pre, x :: xs, t => (if (x.tx : Int) = t then [rval pre x] else []) ++ rds (pre ++ [x]) xs t
theorem rds_append : ∀ (l1 pre l2 : List Hop) (t : Int), rds pre (l1 ++ l2) t = rds pre l1 t ++ rds (pre ++ l1) l2 t
  | [], pre, l2, t => by simp [rds]
  | x :: l1, pre, l2, t => by
    rw [List.cons_append, rds, rds, rds_append l1]; simp
theorem rds_none : ∀ (l pre : List Hop) (t : Int), (∀ x ∈ l, (x.tx : Int) ≠ t) → rds pre l t = []
  | [], _, _, _ => rfl
  | x :: l, pre, t, h => by
    rw [rds, if_neg (h x (by simp)), rds_none l _ _ (fun y hy => h y (by simp [hy]))]; rfl

theorem rval_same {h : List Hop} {ord : List Int} (S : SerialOf h ord) {pre post : List Hop} {x : Hop} (hh : h = pre ++ x :: post) {P Q : List Int} (hPQ : ord = P ++ (x.tx : Int) :: Q) :
    rval pre x = rval (serl h P ++ pre.filter (has (x.tx : Int))) x := by
  unfold rval
  by_cases hk : x.kind = 1
  · rw [if_pos hk, if_pos hk]
    have hnd := S.nd
    rw [hPQ, List.nodup_append] at hnd
    obtain ⟨hndP, hndq, hdis⟩ := hnd
    have hnd2 := List.nodup_cons.1 hndq
    have hxP : (x.tx : Int) ∉ P := fun hm => hdis _ hm _ (by simp) rfl
    -- a write in the blocks before x's own lies before x in h
    have key1 : ∀ y ∈ serl h P, wrk x.key y = true → y ∈ pre := fun y hy hw => by
      obtain ⟨hyh, hyP⟩ := mem_serl.1 hy
      have hne : y.tx ≠ x.tx := fun e => hxP (e ▸ hyP)
      rw [hh] at hyh
      rcases List.mem_append.1 hyh with h1 | h1
      · exact h1
      · rcases List.mem_cons.1 h1 with h1 | h1
        · exact absurd (by rw [h1]) hne
        · obtain ⟨a1, a2, ha⟩ := List.append_of_mem h1
          obtain ⟨P1, P2, hP⟩ := List.append_of_mem hyP
          have hin := S.bef pre x a1 y a2 (by rw [hh, ha]) (wr_conf hne hw rfl).2 P1 (P2 ++ (x.tx : Int) :: Q) (by rw [hPQ, hP]; simp)
          exact absurd (by rw [hP]; exact List.mem_append.2 (.inl hin)) hxP
    rcases lastw_cases pre x.key with hn | ⟨l1, z, l2, hl, hz, h2⟩
    · rw [lastw_nil hn, lastw_nil]
      rw [List.filter_eq_nil_iff] at hn
      refine filter_nil fun y hy hw => ?_
      rcases List.mem_append.1 hy with h1 | h1
      · exact hn y (key1 y h1 hw) hw
      · exact hn y (List.mem_filter.1 h1).1 hw
    · have hzk : z.key.toList = x.key.toList := by unfold wrk at hz; simp only [Bool.and_eq_true, beq_iff_eq] at hz; exact hz.2
      have e0 : lastw pre x.key = (z.tx : Int) := by rw [hl]; exact lastw_split hz h2
      rw [e0]
      have mz : z ∈ h := by rw [hh, hl]; simp
      by_cases hzt : z.tx = x.tx
      · have e : serl h P ++ pre.filter (has (x.tx : Int)) = (serl h P ++ l1.filter (has (x.tx : Int))) ++ z :: l2.filter (has (x.tx : Int)) := by
          rw [hl, List.filter_append, List.filter_cons, if_pos (by simp [has, hzt])]; simp
        rw [e, lastw_split hz]
        rw [List.filter_eq_nil_iff] at h2
        exact filter_nil fun y hy hw => h2 y (List.mem_filter.1 hy).1 hw
      · -- z is of another transaction, which stands before x's
        have hzP : (z.tx : Int) ∈ P := S.bef l1 z l2 x post (by rw [hh, hl]; simp) (wr_conf hzt hz rfl).1 P Q hPQ
        obtain ⟨P1, P2, hP⟩ := List.append_of_mem hzP
        have hndP2 := hndP
        rw [hP, List.nodup_append] at hndP2
        obtain ⟨_, hq2, hd2⟩ := hndP2
        have hq3 := List.nodup_cons.1 hq2
        -- a write before z by another transaction: that one stands before z's
        have key2 : ∀ y ∈ l1, wrk x.key y = true → y.tx ≠ z.tx → (y.tx : Int) ∈ P1 := fun y hy hw hne => by
          obtain ⟨a1, a2, ha⟩ := List.append_of_mem hy
          exact S.bef a1 y a2 z (l2 ++ x :: post) (by rw [hh, hl, ha]; simp) (wr_conf hne hw hzk).1 P1 (P2 ++ (x.tx : Int) :: Q) (by rw [hPQ, hP]; simp)
        have e : serl h P ++ pre.filter (has (x.tx : Int)) = (serl h P1 ++ h.filter (has (z.tx : Int))) ++ (serl h P2 ++ pre.filter (has (x.tx : Int))) := by
          rw [hP]; simp [serl]
        rw [e, lastw_append_nil, lastw_block (u := z.tx)]
        · intro y hy
          have := (List.mem_filter.1 hy).2
          simp only [has, beq_iff_eq] at this
          omega
        · exact ⟨z, List.mem_filter.2 ⟨mz, by simp [has]⟩, hz⟩
        · rw [List.filter_eq_nil_iff] at h2
          have hcase : ∀ y ∈ pre, wrk x.key y = true → (y.tx : Int) ∉ P1 → y.tx = z.tx := fun y hy hw hP1 => by
            rw [hl] at hy
            rcases List.mem_append.1 hy with h1 | h1
            · by_cases hne : y.tx = z.tx
              · exact hne
              · exact absurd (key2 y h1 hw hne) hP1
            · rcases List.mem_cons.1 h1 with h1 | h1
              · rw [h1]
              · exact absurd hw (h2 y h1)
          refine filter_nil fun y hy hw => ?_
          rcases List.mem_append.1 hy with h1 | h1
          · have hyP2 := (mem_serl.1 h1).2
            have hyP : y ∈ serl h P := mem_serl.2 ⟨(mem_serl.1 h1).1, by rw [hP]; exact List.mem_append.2 (.inr (List.mem_cons_of_mem _ hyP2))⟩
            have := hcase y (key1 y hyP hw) hw (fun hm => hd2 _ hm _ (List.mem_cons_of_mem _ hyP2) rfl)
            exact hq3.1 (this ▸ hyP2)
          · obtain ⟨hyp, hyt⟩ := List.mem_filter.1 h1
            simp only [has, beq_iff_eq] at hyt
            have := hcase y hyp hw (fun hm => hxP (by rw [hP, ← hyt]; exact List.mem_append.2 (.inl hm)))
            exact hzt (by omega)
  · rw [if_neg hk, if_neg hk]

theorem rds_same1 {h : List Hop} {ord : List Int} (S : SerialOf h ord) {t : Int} {P Q : List Int} (hPQ : ord = P ++ t :: Q) : ∀ (post pre : List Hop), h = pre ++ post →
    rds pre post t = rds (serl h P ++ pre.filter (has t)) (post.filter (has t)) t
  | [], pre, _ => rfl
  | x :: post, pre, hh => by
    have ih := rds_same1 S hPQ post (pre ++ [x]) (by rw [hh]; simp)
    by_cases hx : (x.tx : Int) = t
    · subst hx
      rw [List.filter_cons, if_pos (by simp [has]), rds, rds, if_pos rfl, rval_same S hh hPQ, ih, List.filter_append]
      simp [has]
    · rw [List.filter_cons, if_neg (by simp [has, hx]), rds, if_neg hx, ih, List.filter_append]
      simp [has, hx]
theorem rds_same {h : List Hop} {ord : List Int} (S : SerialOf h ord) (t : Int) : rds [] h t = rds [] (serl h ord) t := by
  by_cases ht : t ∈ ord
  · obtain ⟨P, Q, hPQ⟩ := List.append_of_mem ht
    have hnd := S.nd
    rw [hPQ, List.nodup_append] at hnd
    obtain ⟨_, hndq, hdis⟩ := hnd
    have hnd2 := List.nodup_cons.1 hndq
    have e : serl h ord = serl h P ++ (h.filter (has t) ++ serl h Q) := by rw [hPQ]; simp [serl]
    rw [e, rds_append, rds_append, rds_none (serl h P), rds_none (serl h Q), rds_same1 S hPQ h [] rfl]
    · simp
    · intro x hx hxt; have := (mem_serl.1 hx).2; rw [hxt] at this; exact hnd2.1 this
    · intro x hx hxt; have := (mem_serl.1 hx).2; rw [hxt] at this; exact hdis _ this _ (by simp) rfl
  · rw [rds_none h, rds_none (serl h ord)]
    · intro x hx hxt; exact ht (hxt ▸ (mem_serl.1 hx).2)
    · intro x hx hxt; exact ht (hxt ▸ S.mem x hx)
end Go.Proofs.Ytfpegnlmpicekaa.C
