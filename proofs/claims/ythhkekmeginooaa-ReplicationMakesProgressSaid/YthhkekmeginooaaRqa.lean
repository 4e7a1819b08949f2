/- Replication in plain words: a leader whom all follow makes progress. -/
import Derived.Test.YthhkekmeginooaaRpw
namespace Go.Proofs.Ythhkekmeginooaa.Rp
set_option linter.unusedVariables false

/-- Server ld leads term T, the latest one, in which all servers are; its log is L, whose last entry is of this term. -/
structure Pg (C : Clu) (LL : Nat → Lg) (ack : Nat → Nat → Nat) (ld T : Nat) (L : Lg) : Prop where
  ok : Ok C LL ack
  small : NetS C
  ldn : ld < C.srv.length
  tl : C.lead.length = T + 1
  ldT : C.ld T = ld
  term : ∀ v, v < C.srv.length → (C.s v).term = T
  eL : LL T = L
  last : ∃ e, L[L.length - 1]? = some e ∧ e.term = T
section
variable {C : Clu} {LL : Nat → Lg} {ack : Nat → Nat → Nat} {ld T : Nat} {L : Lg} {r k : Nat}
theorem Pg.T1 (h : Pg C LL ack ld T L) : 1 ≤ T := by have := h.ok.t2; have := h.tl; omega
theorem Pg.Tl (h : Pg C LL ack ld T L) : T < C.lead.length := by have := h.tl; omega
theorem Pg.log (h : Pg C LL ack ld T L) : (C.s ld).log = L := by
  rw [h.ok.inv.ldl ld h.ldn (by rw [h.term ld h.ldn]; exact h.ldT), h.term ld h.ldn, h.eL]
theorem Pg.L1 (h : Pg C LL ack ld T L) : 1 ≤ L.length := by
  obtain ⟨e, he, _⟩ := h.last
  have := get_lt he
  omega
theorem Pg.L60 (h : Pg C LL ack ld T L) : L.length ≤ 60 := by rw [← h.eL]; exact h.ok.inv.len T h.T1 h.Tl
theorem Pg.isL (h : Pg C LL ack ld T L) (v : Nat) (hv : v < C.srv.length) : C.isL v = decide (v = ld) := by
  unfold Clu.isL
  rw [h.term v hv, h.ldT]
  by_cases e : v = ld
  · rw [e]
  · rw [decide_eq_false e, decide_eq_false fun h => e h.symm]
theorem Pg.mat (h : Pg C LL ack ld T L) : (C.s ld).mat.length = C.srv.length ∧ ∀ j, j < C.srv.length → (C.s ld).mat.getD j 0 ≤ ack T j := by
  have := h.ok.inv.mat ld h.ldn (by rw [h.term ld h.ldn]; exact h.ldT)
  rw [h.term ld h.ldn] at this
  exact this
theorem Pg.akn (h : Pg C LL ack ld T L) {v : Nat} (hv : v < C.srv.length) : ack T v ≤ L.length := by rw [← h.eL]; exact h.ok.inv.akL T v hv h.T1 h.Tl
/-- A log that begins with L is L. -/
theorem Pg.eq (h : Pg C LL ack ld T L) {v : Nat} (hv : v < C.srv.length) (hp : L <+: (C.s v).log) : (C.s v).log = L := by
  rcases Nat.lt_or_ge L.length (C.s v).log.length with hl | hl
  · exfalso
    obtain ⟨x, hx⟩ : ∃ x, (C.s v).log[L.length]? = some x := ⟨_, List.getElem?_eq_getElem hl⟩
    obtain ⟨g1, g2, g3⟩ := h.ok.inv.gl v hv L.length x hx
    obtain ⟨e, he, het⟩ := h.last
    have h1 := get_lt he
    have hx2 : (LL x.term)[L.length]? = some x := by
      refine pre_get g3 ?_
      rw [List.getElem?_take_of_lt (by omega)]; exact hx
    have he2 : (LL x.term)[L.length - 1]? = some e := by
      refine pre_get g3 ?_
      rw [List.getElem?_take_of_lt (by omega)]; exact pre_get hp he
    have := h.ok.inv.tL x.term g1 g2 e (List.mem_of_getElem? he2)
    have hT : x.term = T := by have := h.tl; omega
    rw [hT, h.eL] at hx2
    have := get_lt hx2
    omega
  · exact (hp.eq_of_length_le hl).symm
theorem Pg.full (h : Pg C LL ack ld T L) {v : Nat} (hv : v < C.srv.length) (hm : L.length ≤ (C.s ld).mat.getD v 0) : (C.s v).log = L := by
  refine h.eq hv ?_
  have h1 := h.mat.2 v hv
  have h2 := h.ok.inv.akl v hv
  rw [h.term v hv, h.eL, List.take_of_length_le (by omega)] at h2
  exact h2
/-- Entries that are sent to a server of the term fit its log. -/
theorem Ok.fits (h : Ok C LL ack) {m : Msg} (hm : MOk C.srv.length C.lead.length C.ld LL ack m) (hk : m.kind = 1) (ht : m.term = (C.s m.to).term) : m.fits (C.s m.to) = true := by
  obtain ⟨_, _, a3, a4, a5, a6, _⟩ := hm.knd.resolve_right fun e => by rw [e.1] at hk; cases hk
  have h2 := h.inv.akl m.to hm.to
  rw [← ht] at h2
  have h3 := h.inv.akL m.term m.to hm.to hm.t1 hm.tT
  have h4 := h2.length_le
  rw [List.length_take] at h4
  unfold Msg.fits
  rw [Bool.and_eq_true, Bool.or_eq_true]
  refine ⟨decide_eq_true (by omega), ?_⟩
  by_cases h0 : m.idx = 0
  · exact .inl (decide_eq_true h0)
  · right
    rw [decide_eq_true_eq, a5, if_neg h0]
    obtain ⟨x, hx⟩ : ∃ x, (LL m.term)[m.idx - 1]? = some x := ⟨_, List.getElem?_eq_getElem (by omega)⟩
    have hx2 : ((LL m.term).take (ack m.term m.to))[m.idx - 1]? = some x := by rw [List.getElem?_take_of_lt (by omega)]; exact hx
    rw [pre_get h2 hx2, hx]
    rfl
/-! ### Deliver -/
def dcase (C : Clu) (m : Msg) (rest : List Msg) (T ld : Nat) : Clu :=
  if m.term < T then { C with net := rest } else
  if m.kind = 1 then { C.put m.to { term := T, com := max (C.s m.to).com (min m.com (m.idx + m.ents.length)), log := recvL (C.s m.to).log m.idx m.ents, mat := (C.s m.to).mat } with net := rest ++ [m.reply] } else
  if m.to = ld then { C.put ld (({ C.s ld with mat := (C.s ld).mat.set m.frm (max ((C.s ld).mat.getD m.frm 0) m.idx) } : Srv).adv ld) with net := rest } else { C with net := rest }
theorem Pg.dcase (h : Pg C LL ack ld T L) {m : Msg} {rest : List Msg} (hn : C.net = m :: rest) : C.deliver 0 = dcase C m rest T ld := by
  have hm := h.ok.inv.net m (by rw [hn]; exact List.mem_cons_self ..)
  have ht := h.term m.to hm.to
  have hmt : ¬ m.term < T → m.term = T := fun e => by have := hm.tT; have := h.tl; omega
  have hl := h.ok.net
  have hlt : 0 < C.net.length := by rw [hn]; exact Nat.succ_pos _
  have hd : C.drop 0 = { C with net := rest } := by unfold Clu.drop cut; rw [hn]; rfl
  have hget : C.net[0] = m := by simp [hn]
  unfold Clu.deliver
  rw [dif_pos hlt, hget, hd]
  unfold Clu.del Rp.dcase
  rw [show ({ C with net := rest } : Clu).s m.to = C.s m.to from rfl, ht]
  by_cases h1 : m.term < T
  · rw [if_pos h1, if_pos h1]
  · rw [if_neg h1, if_neg h1]
    by_cases h2 : m.kind = 1
    · rw [if_pos h2, if_pos h2]
      have hf := h.ok.fits hm h2 (by rw [ht]; exact hmt h1)
      unfold Clu.recv
      rw [show ({ C with net := rest } : Clu).s m.to = C.s m.to from rfl, hf]
      have hr : rest.length < 100 := by rw [hn, List.length_cons] at hl; omega
      unfold Srv.take
      rw [if_pos hf, hmt h1]
      simp only [hr, decide_true, Bool.and_true, if_true]
      rfl
    · rw [if_neg h2, if_neg h2]
      by_cases h3 : m.to = ld
      · have : ({ C with net := rest } : Clu).isL m.to = true := by
          show C.isL m.to = true
          rw [h.isL m.to hm.to]; exact decide_eq_true h3
        rw [if_pos ⟨hmt h1, this⟩, if_pos h3]
        unfold Clu.acked
        rw [h3]
        rfl
      · have : ¬ (m.term = T ∧ ({ C with net := rest } : Clu).isL m.to = true) := fun e => h3 (by
          have := e.2
          rw [show ({ C with net := rest } : Clu).isL m.to = C.isL m.to from rfl, h.isL m.to hm.to] at this
          exact of_decide_eq_true this)
        rw [if_neg this, if_neg h3]
theorem dcase_n (C : Clu) (m : Msg) (rest : List Msg) (T ld : Nat) : (dcase C m rest T ld).srv.length = C.srv.length ∧ (dcase C m rest T ld).lead = C.lead ∧ (dcase C m rest T ld).net = (if ¬ m.term < T ∧ m.kind = 1 then rest ++ [m.reply] else rest) := by
  unfold dcase
  by_cases h1 : m.term < T
  · rw [if_pos h1, if_neg (fun e : ¬ m.term < T ∧ m.kind = 1 => e.1 h1)]; exact ⟨rfl, rfl, rfl⟩
  · rw [if_neg h1]
    by_cases h2 : m.kind = 1
    · rw [if_pos h2, if_pos ⟨h1, h2⟩]; exact ⟨put_n .., rfl, rfl⟩
    · rw [if_neg h2, if_neg (fun e : ¬ m.term < T ∧ m.kind = 1 => h2 e.2)]
      split
      · exact ⟨put_n .., rfl, rfl⟩
      · exact ⟨rfl, rfl, rfl⟩
/-- What a delivery does to a server. -/
theorem dcase_s (C : Clu) (m : Msg) (rest : List Msg) (T ld : Nat) (hto : m.to < C.srv.length) (v : Nat) :
    (dcase C m rest T ld).s v = if m.term < T then C.s v else if m.kind = 1 then (if v = m.to then { term := T, com := max (C.s m.to).com (min m.com (m.idx + m.ents.length)), log := recvL (C.s m.to).log m.idx m.ents, mat := (C.s m.to).mat } else C.s v)
      else if m.to = ld then (if v = ld then ({ C.s ld with mat := (C.s ld).mat.set m.frm (max ((C.s ld).mat.getD m.frm 0) m.idx) } : Srv).adv ld else C.s v) else C.s v := by
  unfold dcase
  split
  · rfl
  · split
    · show (C.put _ _).s v = _
      rw [put_s _ _ _ hto]; rfl
    · split
      · rename_i h3
        show (C.put _ _).s v = _
        rw [put_s _ _ _ (by rw [← h3]; exact hto)]; rfl
      · rfl
theorem adv_mat (s : Srv) (i j : Nat) (h : j ≠ i) : (s.adv i).mat.getD j 0 = s.mat.getD j 0 := by
  rw [(adv_same s i).2.2.1]
  simp only [List.getD]
  rw [List.getElem?_set_ne (fun e => h e.symm)]
theorem set_max (l : List Nat) (f j x : Nat) : l.getD j 0 ≤ (l.set f (max (l.getD f 0) x)).getD j 0 := by
  simp only [List.getD]
  rw [List.getElem?_set]
  by_cases e : f = j
  · subst e
    rw [if_pos rfl]
    split
    · rw [Option.getD_some]; exact Nat.le_max_left _ _
    · rename_i h; rw [List.getElem?_eq_none (by omega)]; exact Nat.le_refl _
  · rw [if_neg e]; exact Nat.le_refl _
theorem Pg.deliver (h : Pg C LL ack ld T L) {m : Msg} {rest : List Msg} (hn : C.net = m :: rest) : ∃ ack', Pg (C.deliver 0) LL ack' ld T L ∧ (C.deliver 0).srv.length = C.srv.length ∧ (∀ v, (C.s v).com ≤ ((C.deliver 0).s v).com) ∧ ∀ j, j ≠ ld → (C.s ld).mat.getD j 0 ≤ ((C.deliver 0).s ld).mat.getD j 0 := by
  have hm := h.ok.inv.net m (by rw [hn]; exact List.mem_cons_self ..)
  obtain ⟨ack', hx⟩ := h.ok.deliver 0
  have hd := h.dcase hn
  obtain ⟨e1, e2, e3⟩ := dcase_n C m rest T ld
  have hs := dcase_s C m rest T ld hm.to
  have hnx := (Next.deliver C 0).net h.small
  rw [hd] at hx hnx ⊢
  refine ⟨ack', ⟨hx.ok, hnx, by rw [e1]; exact h.ldn, by rw [e2]; exact h.tl, by unfold Clu.ld; rw [e2]; exact h.ldT, fun v hv => ?_, h.eL, h.last⟩, e1, hx.com, fun j hj => ?_⟩
  · rw [e1] at hv
    rw [hs]
    split
    · exact h.term v hv
    · split
      · split
        · rfl
        · exact h.term v hv
      · split
        · split
          · rename_i e; rw [(adv_same _ _).1]; exact h.term ld h.ldn
          · exact h.term v hv
        · exact h.term v hv
  · rw [hs]
    split
    · exact Nat.le_refl _
    · split
      · split
        · rename_i e; rw [← e]; exact Nat.le_refl _
        · exact Nat.le_refl _
      · split
        · rw [if_pos rfl, adv_mat _ _ _ hj]
          exact set_max ..
        · exact Nat.le_refl _
/-! ### What is on its way -/
def HasM (C : Clu) (ld T j g : Nat) : Prop := g ≤ (C.s ld).mat.getD j 0 ∨ ∃ m ∈ C.net, m.term = T ∧ ((m.kind = 1 ∧ m.to = j ∧ g ≤ m.idx + m.ents.length) ∨ (m.kind = 2 ∧ m.to = ld ∧ m.frm = j ∧ g ≤ m.idx))
def HasC (C : Clu) (T j g : Nat) : Prop := g ≤ (C.s j).com ∨ ∃ m ∈ C.net, m.term = T ∧ m.kind = 1 ∧ m.to = j ∧ g ≤ min m.com (m.idx + m.ents.length)
def Full (C : Clu) (ld : Nat) (L : Lg) : Prop := ∀ j, j < C.srv.length → j ≠ ld → L.length ≤ (C.s ld).mat.getD j 0
def HasL (C : Clu) (ld T : Nat) (L : Lg) : Prop := L.length ≤ (C.s ld).com ∨ (Full C ld L ∧ ∃ m ∈ C.net, m.term = T ∧ (m.kind = 1 ∨ (m.kind = 2 ∧ m.to = ld)))
theorem Pg.hasM (h : Pg C LL ack ld T L) {m : Msg} {rest : List Msg} (hn : C.net = m :: rest) {j g : Nat} (hj : j < C.srv.length) (hjl : j ≠ ld) (hh : HasM C ld T j g) : HasM (C.deliver 0) ld T j g := by
  have hm := h.ok.inv.net m (by rw [hn]; exact List.mem_cons_self ..)
  obtain ⟨_, _, _, _, hmono⟩ := h.deliver hn
  rcases hh with hh | ⟨x, hx, h1, h2⟩
  · exact .inl (Nat.le_trans hh (hmono j hjl))
  · have hd := h.dcase hn
    obtain ⟨e1, e2, e3⟩ := dcase_n C m rest T ld
    have hs := dcase_s C m rest T ld hm.to
    rw [← hd] at e1 e2 e3 hs
    rw [hn] at hx
    rcases List.mem_cons.1 hx with rfl | hx
    · rcases h2 with ⟨a1, a2, a3⟩ | ⟨a1, a2, a3, a4⟩
      · right
        have hfrm : x.frm = ld := by
          have := (hm.knd.resolve_right fun e => by rw [e.1] at a1; cases a1).2.1
          rw [h1, h.ldT] at this
          exact this.symm
        refine ⟨x.reply, ?_, h1, .inr ⟨rfl, hfrm, a2, a3⟩⟩
        rw [e3, if_pos ⟨by omega, a1⟩]
        exact List.mem_append_right _ (List.mem_singleton.2 rfl)
      · left
        rw [hs, if_neg (by omega), if_neg (by omega), if_pos a2, if_pos rfl, adv_mat _ _ _ hjl]
        show g ≤ ((C.s ld).mat.set x.frm _).getD j 0
        simp only [List.getD]
        rw [List.getElem?_set, if_pos a3, if_pos (by rw [h.mat.1, a3]; exact hj), Option.getD_some]
        exact Nat.le_trans a4 (Nat.le_max_right _ _)
    · right
      refine ⟨x, ?_, h1, h2⟩
      rw [e3]
      split
      · exact List.mem_append_left _ hx
      · exact hx
theorem Pg.hasC (h : Pg C LL ack ld T L) {m : Msg} {rest : List Msg} (hn : C.net = m :: rest) {j g : Nat} (hh : HasC C T j g) : HasC (C.deliver 0) T j g := by
  have hm := h.ok.inv.net m (by rw [hn]; exact List.mem_cons_self ..)
  obtain ⟨_, _, _, hmono, _⟩ := h.deliver hn
  rcases hh with hh | ⟨x, hx, h1, h2, h3, h4⟩
  · exact .inl (Nat.le_trans hh (hmono j))
  · have hd := h.dcase hn
    obtain ⟨e1, e2, e3⟩ := dcase_n C m rest T ld
    have hs := dcase_s C m rest T ld hm.to
    rw [← hd] at e1 e2 e3 hs
    rw [hn] at hx
    rcases List.mem_cons.1 hx with rfl | hx
    · left
      rw [hs, if_neg (by omega), if_pos h2, if_pos h3.symm]
      exact Nat.le_trans h4 (Nat.le_max_right _ _)
    · right
      refine ⟨x, ?_, h1, h2, h3, h4⟩
      rw [e3]
      split
      · exact List.mem_append_left _ hx
      · exact hx
/-- Where all servers match, an acknowledge commits the whole log. -/
theorem adv_full (s : Srv) (i n : Nat) (hn : s.mat.length = n) (hi : i < n) (hf : ∀ j, j < n → j ≠ i → s.log.length ≤ s.mat.getD j 0) (hle : ∀ j, j < n → s.mat.getD j 0 ≤ s.log.length) (hl : ∃ e, s.log[s.log.length - 1]? = some e ∧ e.term = s.term) : s.log.length ≤ (s.adv i).com := by
  have hlen : (s.mat.set i s.log.length).length = n := by rw [List.length_set]; exact hn
  have hget : ∀ x ∈ s.mat.set i s.log.length, x = s.log.length := fun x hx => by
    obtain ⟨j, hj, rfl⟩ := List.getElem_of_mem hx
    rw [List.getElem_set]
    rw [hlen] at hj
    by_cases e : i = j
    · rw [if_pos e]
    · rw [if_neg e]
      have h1 := hf j hj fun h => e h.symm
      have h2 := hle j hj
      have h3 : s.mat.getD j 0 = s.mat[j]'(by omega) := by simp [List.getD, show j < s.mat.length by omega]
      omega
  have hmid : mid (s.mat.set i s.log.length) = s.log.length := by
    have h1 := mid_le (s.mat.set i s.log.length) (by omega) s.log.length fun x hx => Nat.le_of_eq (hget x hx)
    have h2 := mid_ge (s.mat.set i s.log.length) (by omega) s.log.length fun x hx => Nat.le_of_eq (hget x hx).symm
    omega
  unfold Srv.adv
  rw [hmid]
  split
  · exact Nat.le_refl _
  · rename_i h
    rcases Nat.lt_or_ge s.com s.log.length with h1 | h1
    · obtain ⟨e, he, het⟩ := hl
      exact absurd ⟨h1, by rw [he, ← het]; rfl⟩ h
    · exact h1
theorem Pg.hasL (h : Pg C LL ack ld T L) {m : Msg} {rest : List Msg} (hn : C.net = m :: rest) (hh : HasL C ld T L) : HasL (C.deliver 0) ld T L := by
  have hm := h.ok.inv.net m (by rw [hn]; exact List.mem_cons_self ..)
  obtain ⟨_, _, hlen, hmono, hmat⟩ := h.deliver hn
  rcases hh with hh | ⟨hf, x, hx, h1, h2⟩
  · exact .inl (Nat.le_trans hh (hmono ld))
  · have hf' : Full (C.deliver 0) ld L := fun j hj hjl => Nat.le_trans (hf j (by rw [← hlen]; exact hj) hjl) (hmat j hjl)
    have hd := h.dcase hn
    obtain ⟨e1, e2, e3⟩ := dcase_n C m rest T ld
    have hs := dcase_s C m rest T ld hm.to
    rw [← hd] at e1 e2 e3 hs
    rw [hn] at hx
    rcases List.mem_cons.1 hx with rfl | hx
    · rcases h2 with a1 | ⟨a1, a2⟩
      · right
        have hfrm : x.frm = ld := by
          have := (hm.knd.resolve_right fun e => by rw [e.1] at a1; cases a1).2.1
          rw [h1, h.ldT] at this
          exact this.symm
        refine ⟨hf', x.reply, ?_, h1, .inr ⟨rfl, hfrm⟩⟩
        rw [e3, if_pos ⟨by omega, a1⟩]
        exact List.mem_append_right _ (List.mem_singleton.2 rfl)
      · left
        rw [hs, if_neg (by omega), if_neg (by omega), if_pos a2, if_pos rfl]
        have hx2 := (hm.knd.resolve_left fun e => by rw [e.1] at a1; cases a1).2
        have hlog := h.log
        have hle : ∀ j, j < C.srv.length → (C.s ld).mat.getD j 0 ≤ L.length := fun j hj => Nat.le_trans (h.mat.2 j hj) (h.akn hj)
        have key := adv_full { C.s ld with mat := (C.s ld).mat.set x.frm (max ((C.s ld).mat.getD x.frm 0) x.idx) } ld C.srv.length (by rw [← h.mat.1]; exact List.length_set ..) h.ldn (fun j hj hjl => by
            rw [hlog]
            exact Nat.le_trans (hf j hj hjl) (set_max ..)) (fun j hj => by
            rw [hlog]
            show ((C.s ld).mat.set x.frm _).getD j 0 ≤ _
            simp only [List.getD]
            rw [List.getElem?_set]
            split
            · rename_i e
              rw [if_pos (by rw [h.mat.1, e]; exact hj), Option.getD_some]
              have g1 := hle x.frm hm.frm
              have g2 := h.akn hm.frm
              rw [h1] at hx2
              simp only [List.getD] at g1
              exact Nat.max_le.2 ⟨g1, by omega⟩
            · exact hle j hj) (by
            rw [hlog]
            show ∃ e, L[L.length - 1]? = some e ∧ e.term = (C.s ld).term
            rw [h.term ld h.ldn]
            exact h.last)
        rw [show ({ C.s ld with mat := (C.s ld).mat.set x.frm (max ((C.s ld).mat.getD x.frm 0) x.idx) } : Srv).log = L from hlog] at key
        exact key
    · right
      refine ⟨hf', x, ?_, h1, h2⟩
      rw [e3]
      split
      · exact List.mem_append_left _ hx
      · exact hx
/-! ### The network runs empty -/
def wt (l : List Msg) : Nat := (l.map fun m => if m.kind = 1 then 2 else 1).sum
theorem wt_cons (m : Msg) (l : List Msg) : wt (m :: l) = (if m.kind = 1 then 2 else 1) + wt l := by unfold wt; rw [List.map_cons, List.sum_cons]
theorem wt_app (a b : List Msg) : wt (a ++ b) = wt a + wt b := by unfold wt; rw [List.map_append, List.sum_append]
theorem wt_le (l : List Msg) : wt l ≤ 2 * l.length := by
  induction l with
  | nil => exact Nat.le_refl _
  | cons m l ih => rw [wt_cons, List.length_cons]; split <;> omega
theorem Pg.wt (h : Pg C LL ack ld T L) {m : Msg} {rest : List Msg} (hn : C.net = m :: rest) : wt (C.deliver 0).net + 1 ≤ wt C.net := by
  rw [h.dcase hn, (dcase_n C m rest T ld).2.2, hn, wt_cons]
  split
  · rename_i e
    rw [wt_app, if_pos e.2]
    show Rp.wt rest + Rp.wt [m.reply] + 1 ≤ _
    have : Rp.wt [m.reply] = 1 := rfl
    omega
  · split <;> omega
/-! ### The leader sends -/
theorem Pg.sendC (h : Pg C LL ack ld T L) (j : Nat) (hj : j ≠ ld) (hn : C.net.length < 100) : C.sendC ld j = C.send ld j ∧ C.sendE ld j = 0 := by
  have hl : C.isL ld = true := by rw [h.isL ld h.ldn]; exact decide_eq_true rfl
  exact ⟨by unfold Clu.sendC; rw [if_pos ⟨fun e => hj e.symm, hl, hn⟩], by unfold Clu.sendE; rw [if_neg fun e => hj e.symm, if_pos hl, if_pos hn]⟩
theorem Pg.send (h : Pg C LL ack ld T L) (j : Nat) (hj : j ≠ ld) (hjn : j < C.srv.length) (hn : C.net.length < 100) : Pg (C.send ld j) LL ack ld T L := by
  have hl : C.isL ld = true := by rw [h.isL ld h.ldn]; exact decide_eq_true rfl
  have hx := h.ok.send ld j h.ldn hjn (fun e => hj e.symm) hl hn
  have hnx := (Next.send C ld j h.ldn hjn).net h.small
  rw [(h.sendC j hj hn).1] at hnx
  exact ⟨hx.ok, hnx, h.ldn, h.tl, h.ldT, h.term, h.eL, h.last⟩
theorem Pg.msg (h : Pg C LL ack ld T L) (j : Nat) : (C.msg ld j).term = T ∧ (C.msg ld j).kind = 1 ∧ (C.msg ld j).to = j ∧ (C.msg ld j).com = (C.s ld).com ∧ (C.msg ld j).idx = (C.s ld).mat.getD j 0 ∧ (C.msg ld j).ents = (L.drop ((C.s ld).mat.getD j 0)).take 3 :=
  ⟨h.term ld h.ldn, rfl, rfl, rfl, rfl, by rw [← h.log]; rfl⟩
/-! ### Rounds -/
/-- Ahead of the deliveries of round r. -/
structure Stg (C : Clu) (ld T : Nat) (L : Lg) (r : Nat) : Prop where
  mat : ∀ j, j < C.srv.length → j ≠ ld → HasM C ld T j (min L.length (3 * (r - 1)))
  com : (22 ≤ r ∨ C.srv.length = 1) → HasL C ld T L
  all : 23 ≤ r → ∀ j, j < C.srv.length → j ≠ ld → HasC C T j L.length
theorem Pg.stg (h : Pg C LL ack ld T L) {m : Msg} {rest : List Msg} (hn : C.net = m :: rest) {r : Nat} (hs : Stg C ld T L r) : Stg (C.deliver 0) ld T L r := by
  obtain ⟨_, _, hl, _, _⟩ := h.deliver hn
  exact ⟨fun j hj hjl => h.hasM hn (by rw [← hl]; exact hj) hjl (hs.mat j (by rw [← hl]; exact hj) hjl), fun hr => h.hasL hn (hs.com (by rw [← hl]; exact hr)), fun hr j hj hjl => h.hasC hn (hs.all hr j (by rw [← hl]; exact hj) hjl)⟩
/-- Behind them. -/
structure Stq (C : Clu) (ld : Nat) (L : Lg) (r : Nat) : Prop where
  mat : ∀ j, j < C.srv.length → j ≠ ld → min L.length (3 * (r - 1)) ≤ (C.s ld).mat.getD j 0
  com : (22 ≤ r ∨ C.srv.length = 1) → L.length ≤ (C.s ld).com
  all : 23 ≤ r → ∀ j, j < C.srv.length → L.length ≤ (C.s j).com
theorem Stg.quiet (h : Stg C ld T L r) (hn : C.net = []) : Stq C ld L r := by
  have hl : (22 ≤ r ∨ C.srv.length = 1) → L.length ≤ (C.s ld).com := fun hr => (h.com hr).resolve_right fun ⟨_, m, hm, _⟩ => by rw [hn] at hm; cases hm
  refine ⟨fun j hj hjl => (h.mat j hj hjl).resolve_right fun ⟨m, hm, _⟩ => (by rw [hn] at hm; cases hm), hl, fun hr j hj => ?_⟩
  by_cases e : j = ld
  · rw [e]; exact hl (.inl (by omega))
  · exact (h.all hr j hj e).resolve_right fun ⟨m, hm, _⟩ => (by rw [hn] at hm; cases hm)
/-- In the midst of the leader's sending. -/
structure Stn (C : Clu) (ld T : Nat) (L : Lg) (r k : Nat) : Prop where
  q : Stq C ld L r
  len : C.net.length ≤ k
  sent : ∀ j, j < k → j < C.srv.length → j ≠ ld → ∃ m ∈ C.net, m.term = T ∧ m.kind = 1 ∧ m.to = j ∧ m.com = (C.s ld).com ∧ min L.length ((C.s ld).mat.getD j 0 + 3) ≤ m.idx + m.ents.length
theorem Stq.start (h : Stq C ld L r) (hn : C.net = []) : Stn C ld T L r 0 := ⟨h, by rw [hn]; exact Nat.le_refl _, fun j hj => by omega⟩
theorem Stn.skip (h : Stn C ld T L r k) (hk : k = ld) : Stn C ld T L r (k + 1) := ⟨h.q, Nat.le_succ_of_le h.len, fun j hj hjn hjl => h.sent j (by omega) hjn hjl⟩
theorem Stn.send (hP : Pg C LL ack ld T L) (h : Stn C ld T L r k) : Stn (C.send ld k) ld T L r (k + 1) := by
  have hm := hP.msg k
  refine ⟨⟨h.q.mat, h.q.com, h.q.all⟩, ?_, fun j hj hjn hjl => ?_⟩
  · show (C.net ++ [_]).length ≤ k + 1
    rw [List.length_append, List.length_singleton]
    have := h.len; omega
  · rcases Nat.lt_or_ge j k with e | e
    · obtain ⟨m, h1, h2⟩ := h.sent j e hjn hjl
      exact ⟨m, List.mem_append_left _ h1, h2⟩
    · obtain rfl : j = k := by omega
      refine ⟨_, List.mem_append_right _ (List.mem_singleton.2 rfl), hm.1, hm.2.1, hm.2.2.1, hm.2.2.2.1, ?_⟩
      rw [hm.2.2.2.2.1, hm.2.2.2.2.2, List.length_take, List.length_drop]
      show min L.length ((C.s ld).mat.getD j 0 + 3) ≤ _
      omega
theorem Stn.fin (hP : Pg C LL ack ld T L) (h : Stn C ld T L r C.srv.length) : Stg C ld T L (r + 1) := by
  have hle : ∀ j, j < C.srv.length → (C.s ld).mat.getD j 0 ≤ L.length := fun j hj => Nat.le_trans (hP.mat.2 j hj) (hP.akn hj)
  have h60 := hP.L60
  refine ⟨fun j hj hjl => ?_, fun hr => ?_, fun hr j hj hjl => ?_⟩
  · obtain ⟨m, h1, h2, h3, h4, h5, h6⟩ := h.sent j hj hj hjl
    refine .inr ⟨m, h1, h2, .inl ⟨h3, h4, ?_⟩⟩
    have := h.q.mat j hj hjl
    omega
  · by_cases e : C.srv.length = 1
    · exact .inl (h.q.com (.inr e))
    · rcases Nat.lt_or_ge r 22 with hr2 | hr2
      · right
        have hf : Full C ld L := fun j hj hjl => by
          have := h.q.mat j hj hjl
          have : r = 21 := by rcases hr with hr | hr; omega; exact absurd hr e
          omega
        obtain ⟨j, hj, hjl⟩ : ∃ j, j < C.srv.length ∧ j ≠ ld := by
          have := hP.ok.n1
          by_cases e2 : ld = 0
          · exact ⟨1, by omega, by omega⟩
          · exact ⟨0, by omega, fun h => e2 h.symm⟩
        obtain ⟨m, h1, h2, h3, _⟩ := h.sent j hj hj hjl
        exact ⟨hf, m, h1, h2, .inl h3⟩
      · exact .inl (h.q.com (.inl hr2))
  · obtain ⟨m, h1, h2, h3, h4, h5, h6⟩ := h.sent j hj hj hjl
    refine .inr ⟨m, h1, h2, h3, h4, ?_⟩
    have g1 := h.q.com (.inl (by omega))
    have g2 := h.q.mat j hj hjl
    rw [h5]
    omega
/-- In the end all servers have the whole log, committed. -/
theorem Stq.done (hP : Pg C LL ack ld T L) (h : Stq C ld L r) (hr : 23 ≤ r) : ∀ v, v < C.srv.length → (C.s v).log = L ∧ (C.s v).com = L.length := fun v hv => by
  have hlog : (C.s v).log = L := by
    by_cases e : v = ld
    · rw [e]; exact hP.log
    · have := h.mat v hv e
      have := hP.L60
      exact hP.full hv (by omega)
  have h1 := h.all hr v hv
  have h2 := (hP.ok.inv.com v hv).le
  rw [hlog] at h2
  exact ⟨hlog, by omega⟩
end
end Go.Proofs.Ythhkekmeginooaa.Rp
