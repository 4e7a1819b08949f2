/- Replication in plain words: the cluster and its operations. -/
import Derived.Test.YthhkekmeginooaaRpb
namespace Go.Proofs.Ythhkekmeginooaa.Rp
set_option linter.unusedVariables false

structure Clu where
  srv : List Srv
  lead : List Nat
  net : List Msg
def s0 : Srv := ⟨0, 0, [], []⟩
def Clu.s (C : Clu) (v : Nat) : Srv := C.srv.getD v s0
def Clu.ld (C : Clu) (t : Nat) : Nat := C.lead.getD t 0
def Clu.isL (C : Clu) (i : Nat) : Bool := decide (C.ld (C.s i).term = i)
def Clu.put (C : Clu) (i : Nat) (s : Srv) : Clu := { C with srv := C.srv.set i s }
theorem put_s (C : Clu) (i : Nat) (s : Srv) (h : i < C.srv.length) : (C.put i s).s = upd C.s i s := by
  funext v
  unfold Clu.s Clu.put upd
  simp only [List.getD]
  rw [List.getElem?_set]
  by_cases e : i = v
  · rw [if_pos e, if_pos e.symm, if_pos (by omega)]; rfl
  · rw [if_neg e, if_neg fun h => e h.symm]
theorem put_n (C : Clu) (i : Nat) (s : Srv) : (C.put i s).srv.length = C.srv.length := List.length_set ..
/-- All that is told of a cluster. -/
structure Ok (C : Clu) (LL : Nat → Lg) (ack : Nat → Nat → Nat) : Prop where
  inv : Inv C.srv.length C.lead.length C.ld C.s C.net LL ack
  n1 : 1 ≤ C.srv.length
  n5 : C.srv.length ≤ 5
  t2 : 2 ≤ C.lead.length
  t61 : C.lead.length ≤ 61
  net : C.net.length ≤ 100
/-- A step. -/
structure Nx (C : Clu) (LL : Nat → Lg) (ack : Nat → Nat → Nat) (C' : Clu) (LL' : Nat → Lg) (ack' : Nat → Nat → Nat) : Prop where
  ok : Ok C' LL' ack'
  ext : Ext C.srv.length C.lead.length LL LL' ack ack'
  n : C'.srv.length = C.srv.length
  T : C.lead.length ≤ C'.lead.length
  com : ∀ v, (C.s v).com ≤ (C'.s v).com
section
variable {C C1 C2 : Clu} {LL LL1 LL2 : Nat → Lg} {ack ack1 ack2 : Nat → Nat → Nat}
theorem Ok.refl (h : Ok C LL ack) : Nx C LL ack C LL ack := ⟨h, Ext.refl _ _ _ _, rfl, Nat.le_refl _, fun _ => Nat.le_refl _⟩
theorem Nx.trans (h : Nx C LL ack C1 LL1 ack1) (k : Nx C1 LL1 ack1 C2 LL2 ack2) : Nx C LL ack C2 LL2 ack2 := by
  have x := k.ext
  rw [h.n] at x
  exact ⟨k.ok, h.ext.trans x h.T, k.n.trans h.n, Nat.le_trans h.T k.T, fun v => Nat.le_trans (h.com v) (k.com v)⟩
theorem Ok.loglen (h : Ok C LL ack) {v : Nat} (hv : v < C.srv.length) : (C.s v).log.length ≤ 60 := by
  rcases Nat.eq_zero_or_pos (C.s v).log.length with h0 | h0
  · omega
  · obtain ⟨e, he⟩ : ∃ e, (C.s v).log[(C.s v).log.length - 1]? = some e := ⟨_, List.getElem?_eq_getElem (by omega)⟩
    obtain ⟨g1, g2, g3⟩ := h.inv.gl v hv _ e he
    have := g3.length_le
    rw [List.length_take] at this
    have := h.inv.len _ g1 g2
    omega
end

/-! ### The commit index -/
def srtI (l : List Int) : List Int := l.mergeSort fun x y => decide (x ≤ y)
theorem srtI_perm (l : List Int) : (srtI l).Perm l := List.mergeSort_perm _ _
theorem srtI_len (l : List Int) : (srtI l).length = l.length := (srtI_perm l).length_eq
theorem srtI_srt (l : List Int) : (srtI l).Pairwise fun x y => x ≤ y := by
  have := List.pairwise_mergeSort (le := fun x y : Int => decide (x ≤ y)) (fun a b c h1 h2 => by simp only [decide_eq_true_eq] at *; omega) (fun a b => by simp only [Bool.or_eq_true, decide_eq_true_eq]; omega) l
  exact this.imp fun h => of_decide_eq_true h
abbrev ci (l : List Nat) : List Int := l.map fun x => ((x : Nat) : Int)
/-- The index that a majority has reached. -/
def mid (l : List Nat) : Nat := ((srtI (ci l)).getD ((l.length - 1) / 2) 0).toNat
theorem ci_pos (l : List Nat) : ∀ x ∈ ci l, 0 ≤ x := fun x hx => by
  obtain ⟨y, _, rfl⟩ := List.mem_map.1 hx
  omega
theorem mid_get (l : List Nat) (h : 1 ≤ l.length) : ∃ hj : (l.length - 1) / 2 < (srtI (ci l)).length, (srtI (ci l))[(l.length - 1) / 2] = (mid l : Int) := by
  have hl : (srtI (ci l)).length = l.length := by rw [srtI_len, List.length_map]
  have hj : (l.length - 1) / 2 < (srtI (ci l)).length := by omega
  refine ⟨hj, ?_⟩
  unfold mid
  simp only [List.getD]
  rw [List.getElem?_eq_getElem hj, Option.getD_some]
  have := ci_pos l _ ((srtI_perm (ci l)).mem_iff.1 (List.getElem_mem hj))
  omega
theorem range_map (l : List Nat) : (List.range l.length).map (fun v => l.getD v 0) = l := by
  refine List.ext_getElem (by simp) fun i h1 h2 => ?_
  simp [List.getD, h2]
theorem mid_maj (l : List Nat) (h : 1 ≤ l.length) : Maj l.length fun v => mid l ≤ l.getD v 0 := by
  obtain ⟨hj, hm⟩ := mid_get l h
  refine ⟨(List.range l.length).filter fun v => decide (mid l ≤ l.getD v 0), List.nodup_range.sublist List.filter_sublist, fun v hv => ?_, ?_⟩
  · have := List.mem_filter.1 hv
    exact ⟨List.mem_range.1 this.1, of_decide_eq_true this.2⟩
  · have e1 : ((List.range l.length).filter fun v => decide (mid l ≤ l.getD v 0)).length = l.countP fun x => decide (mid l ≤ x) := by
      rw [← List.countP_eq_length_filter]
      have := List.countP_map (p := fun x => decide (mid l ≤ x)) (f := fun v => l.getD v 0) (l := List.range l.length)
      rw [range_map] at this
      exact this.symm
    have e2 : (l.countP fun x => decide (mid l ≤ x)) = (srtI (ci l)).countP fun x => decide ((mid l : Int) ≤ x) := by
      rw [(srtI_perm (ci l)).countP_eq, List.countP_map]
      refine List.countP_congr fun x _ => ?_
      simp only [Function.comp_apply, decide_eq_true_eq]
      omega
    have e3 : l.length - (l.length - 1) / 2 ≤ (srtI (ci l)).countP fun x => decide ((mid l : Int) ≤ x) := by
      have hs := List.take_append_drop ((l.length - 1) / 2) (srtI (ci l))
      rw [← hs, List.countP_append]
      have : ((srtI (ci l)).drop ((l.length - 1) / 2)).countP (fun x => decide ((mid l : Int) ≤ x)) = ((srtI (ci l)).drop ((l.length - 1) / 2)).length := by
        rw [List.countP_eq_length]
        intro x hx
        obtain ⟨k, hk, rfl⟩ := List.getElem_of_mem hx
        rw [List.getElem_drop, ← hm]
        simp only [decide_eq_true_eq]
        rw [List.length_drop] at hk
        rcases Nat.eq_zero_or_pos k with h0 | h0
        · subst h0; exact Int.le_refl _
        · exact List.pairwise_iff_getElem.1 (srtI_srt _) _ _ hj (by omega) (by omega)
      rw [this, List.length_drop, srtI_len, List.length_map]
      omega
    rw [e1, e2]
    omega
/-- It is no higher than the highest. -/
theorem mid_le (l : List Nat) (h : 1 ≤ l.length) (b : Nat) (hb : ∀ x ∈ l, x ≤ b) : mid l ≤ b := by
  obtain ⟨hj, hm⟩ := mid_get l h
  have := (srtI_perm (ci l)).mem_iff.1 (List.getElem_mem hj)
  rw [hm] at this
  obtain ⟨y, hy, he⟩ := List.mem_map.1 this
  have := hb y hy
  omega
/-- .. and no lower than what a majority has. -/
theorem mid_ge (l : List Nat) (h : 1 ≤ l.length) (b : Nat) (hb : ∀ x ∈ l, b ≤ x) : b ≤ mid l := by
  obtain ⟨hj, hm⟩ := mid_get l h
  have := (srtI_perm (ci l)).mem_iff.1 (List.getElem_mem hj)
  rw [hm] at this
  obtain ⟨y, hy, he⟩ := List.mem_map.1 this
  have := hb y hy
  omega
def Srv.adv (s : Srv) (i : Nat) : Srv :=
  if s.com < mid (s.mat.set i s.log.length) ∧ s.log[mid (s.mat.set i s.log.length) - 1]?.map Ent.term = some s.term then { s with mat := s.mat.set i s.log.length, com := mid (s.mat.set i s.log.length) } else { s with mat := s.mat.set i s.log.length }
theorem adv_same (s : Srv) (i : Nat) : (s.adv i).term = s.term ∧ (s.adv i).log = s.log ∧ (s.adv i).mat = s.mat.set i s.log.length ∧ s.com ≤ (s.adv i).com := by
  unfold Srv.adv
  split
  · rename_i h; exact ⟨rfl, rfl, rfl, Nat.le_of_lt h.1⟩
  · exact ⟨rfl, rfl, rfl, Nat.le_refl _⟩
section
variable {n T : Nat} {lead : Nat → Nat} {sv : Nat → Srv} {net : List Msg} {LL : Nat → Lg} {ack : Nat → Nat → Nat}
/-- The leader's match may rise to what was acknowledged. -/
theorem Inv.adv (h : Inv n T lead sv net LL ack) (i : Nat) (hi : i < n) (hd : lead (sv i).term = i) (m : List Nat) (hm : m.length = n) (hm2 : ∀ j, j < n → m.getD j 0 ≤ ack (sv i).term j) :
    Inv n T lead (upd sv i (({ sv i with mat := m } : Srv).adv i)) net LL ack := by
  have htm := h.tm i hi
  have hlog := h.ldl i hi hd
  have hak := h.akd (sv i).term htm.1 htm.2
  rw [hd] at hak
  have hmm : ∀ j, j < n → (m.set i (sv i).log.length).getD j 0 ≤ ack (sv i).term j := fun j hj => by
    simp only [List.getD]
    rw [List.getElem?_set]
    by_cases e : i = j
    · rw [if_pos e, if_pos (by omega), Option.getD_some, ← e, hak, hlog]; exact Nat.le_refl _
    · rw [if_neg e]; exact hm2 j hj
  obtain ⟨a1, a2, a3, a4⟩ := adv_same ({ sv i with mat := m } : Srv) i
  refine h.same (fun v => ?_) (fun v => ?_) (fun v hv hdv => ?_) fun v hv => ?_
  · by_cases e : v = i
    · rw [e, upd_at, a1]
    · rw [upd_ne _ _ _ e]
  · by_cases e : v = i
    · rw [e, upd_at, a2]
    · rw [upd_ne _ _ _ e]
  · by_cases e : v = i
    · rw [e, upd_at, a3]; exact ⟨by rw [List.length_set]; exact hm, hmm⟩
    · rw [upd_ne _ _ _ e]; exact h.mat v hv hdv
  · by_cases e : v = i
    · rw [e, upd_at]
      unfold Srv.adv
      split
      · rename_i hc
        obtain ⟨c1, c2⟩ := hc
        show ComOk n LL ack (sv i).term (mid (m.set i (sv i).log.length)) (sv i).log
        have hl : (m.set i (sv i).log.length).length = n := by rw [List.length_set]; exact hm
        have hq := mid_maj (m.set i (sv i).log.length) (by omega)
        rw [hl] at hq
        refine .inr ⟨(sv i).term, mid (m.set i (sv i).log.length), htm.1, Nat.le_refl _, Nat.le_refl _, ⟨?_, ?_⟩, hq.mono fun v hv hk => Nat.le_trans hk (hmm v hv), ?_⟩
        · have : (sv i).com < mid (m.set i (sv i).log.length) := c1
          omega
        · have c3 : (sv i).log[mid (m.set i (sv i).log.length) - 1]?.map Ent.term = some (sv i).term := c2
          rw [hlog] at c3
          cases hx : (LL (sv i).term)[mid (m.set i (LL (sv i).term).length) - 1]? with
          | none => rw [hx] at c3; cases c3
          | some x => rw [hx] at c3; rw [hlog]; exact ⟨x, hx, Option.some.inj c3⟩
        · rw [hlog]; exact List.take_prefix _ _
      · exact h.com i hi
    · rw [upd_ne _ _ _ e]; exact h.com v hv
end
section
variable {C : Clu} {LL : Nat → Lg} {ack : Nat → Nat → Nat}

/-! ### Append -/
def Clu.app (C : Clu) (i : Nat) (p : ByteArray) : Clu := C.put i (({ C.s i with log := (C.s i).log ++ [⟨(C.s i).term, p⟩] } : Srv).adv i)
theorem Ok.app (h : Ok C LL ack) (i : Nat) (hi : i < C.srv.length) (hd : C.isL i = true) (hl : (C.s i).log.length < 60) (p : ByteArray) : ∃ LL' ack', Nx C LL ack (C.app i p) LL' ack' ∧ LL' = updL LL (C.s i).term ((C.s i).log ++ [⟨(C.s i).term, p⟩]) := by
  have hd' : C.ld (C.s i).term = i := of_decide_eq_true hd
  obtain ⟨a1, a2⟩ := h.inv.append i hi hd' ⟨(C.s i).term, p⟩ rfl hl
  have hmat := h.inv.mat i hi hd'
  have a3 := a1.adv i hi (by rw [upd_at]; exact hd') (C.s i).mat hmat.1 fun j hj => by
    rw [upd_at]
    exact Nat.le_trans (hmat.2 j hj) (a2.A _ _ hj)
  have e : upd (upd C.s i { C.s i with log := (C.s i).log ++ [⟨(C.s i).term, p⟩] }) i (({ upd C.s i { C.s i with log := (C.s i).log ++ [⟨(C.s i).term, p⟩] } i with mat := (C.s i).mat } : Srv).adv i) = (C.app i p).s := by
    unfold Clu.app
    rw [put_s _ _ _ hi, upd_at]
    funext v
    unfold upd
    split <;> rfl
  rw [e] at a3
  refine ⟨_, _, ⟨⟨?_, ?_, ?_, h.t2, h.t61, h.net⟩, a2, put_n .., Nat.le_refl _, fun v => ?_⟩, rfl⟩
  · unfold Clu.app at a3 ⊢
    rw [put_n]; exact a3
  · unfold Clu.app; rw [put_n]; exact h.n1
  · unfold Clu.app; rw [put_n]; exact h.n5
  · unfold Clu.app
    rw [put_s _ _ _ hi]
    unfold upd
    split
    · rename_i e; rw [e]; exact (adv_same ({ C.s i with log := (C.s i).log ++ [⟨(C.s i).term, p⟩] } : Srv) i).2.2.2
    · exact Nat.le_refl _

/-! ### Send -/
def Clu.msg (C : Clu) (i to : Nat) : Msg :=
  let s := C.s i
  let x := s.mat.getD to 0
  ⟨1, i, to, s.term, x, if x = 0 then 0 else (s.log[x - 1]?.map Ent.term).getD 0, s.com, (s.log.drop x).take 3⟩
def Clu.send (C : Clu) (i to : Nat) : Clu := { C with net := C.net ++ [C.msg i to] }
theorem Ok.msg (h : Ok C LL ack) (i to : Nat) (hi : i < C.srv.length) (ht : to < C.srv.length) (hne : i ≠ to) (hd : C.isL i = true) : MOk C.srv.length C.lead.length C.ld LL ack (C.msg i to) := by
  have hd' : C.ld (C.s i).term = i := of_decide_eq_true hd
  obtain ⟨t1, t2⟩ := h.inv.tm i hi
  obtain ⟨m1, m2⟩ := h.inv.mat i hi hd'
  have hlog := h.inv.ldl i hi hd'
  have hx := m2 to ht
  have hx2 := h.inv.akL (C.s i).term to ht t1 t2
  refine ⟨hi, ht, hne, t1, t2, .inl ⟨rfl, hd', ?_, ?_, ?_, hx, ?_⟩⟩
  · show (C.s i).mat.getD to 0 + (((C.s i).log.drop _).take 3).length ≤ (LL (C.s i).term).length
    rw [hlog, List.length_take, List.length_drop]
    omega
  · show ((C.s i).log.drop _).take 3 = ((LL (C.s i).term).drop _).take (((C.s i).log.drop _).take 3).length
    rw [hlog, List.length_take]; exact List.take_eq_take_min
  · show (if (C.s i).mat.getD to 0 = 0 then 0 else ((C.s i).log[(C.s i).mat.getD to 0 - 1]?.map Ent.term).getD 0) = _
    rw [hlog]; rfl
  · show ComOk _ LL ack (C.s i).term (C.s i).com (LL (C.s i).term)
    rw [← hlog]; exact h.inv.com i hi
theorem Ok.send (h : Ok C LL ack) (i to : Nat) (hi : i < C.srv.length) (ht : to < C.srv.length) (hne : i ≠ to) (hd : C.isL i = true) (hn : C.net.length < 100) : Nx C LL ack (C.send i to) LL ack := by
  have hm := h.msg i to hi ht hne hd
  refine ⟨⟨h.inv.msgs fun m hmm => (List.mem_append.1 hmm).elim (h.inv.net m) fun e => by rw [List.mem_singleton.1 e]; exact hm, h.n1, h.n5, h.t2, h.t61, ?_⟩, Ext.refl _ _ _ _, rfl, Nat.le_refl _, fun _ => Nat.le_refl _⟩
  show (C.net ++ [_]).length ≤ 100
  rw [List.length_append, List.length_singleton]; omega

/-! ### Drop, Deliver -/
def cut (l : List Msg) (k : Nat) : List Msg := l.take k ++ l.drop (k + 1)
theorem cut_mem {l : List Msg} {k : Nat} {m : Msg} (h : m ∈ cut l k) : m ∈ l := by
  rcases List.mem_append.1 h with h | h
  · exact List.mem_of_mem_take h
  · exact List.mem_of_mem_drop h
theorem cut_len {l : List Msg} {k : Nat} (h : k < l.length) : (cut l k).length + 1 = l.length := by
  unfold cut
  rw [List.length_append, List.length_take, List.length_drop]
  omega
def Clu.drop (C : Clu) (k : Nat) : Clu := { C with net := cut C.net k }
theorem Ok.drop (h : Ok C LL ack) (k : Nat) (hk : k < C.net.length) : Nx C LL ack (C.drop k) LL ack := by
  refine ⟨⟨h.inv.msgs fun m hm => h.inv.net m (cut_mem hm), h.n1, h.n5, h.t2, h.t61, ?_⟩, Ext.refl _ _ _ _, rfl, Nat.le_refl _, fun _ => Nat.le_refl _⟩
  have := cut_len hk
  have := h.net
  show (cut C.net k).length ≤ 100
  omega
def Msg.fits (m : Msg) (s : Srv) : Bool := decide (m.idx ≤ s.log.length) && (decide (m.idx = 0) || decide (s.log[m.idx - 1]?.map Ent.term = some m.prev))
def Srv.take (s : Srv) (m : Msg) : Srv :=
  if m.fits s then { s with term := m.term, com := max s.com (min m.com (m.idx + m.ents.length)), log := recvL s.log m.idx m.ents } else { s with term := m.term }
def Msg.reply (m : Msg) : Msg := ⟨2, m.to, m.frm, m.term, m.idx + m.ents.length, 0, 0, []⟩
def Clu.recv (C : Clu) (m : Msg) : Clu :=
  { C.put m.to ((C.s m.to).take m) with net := if m.fits (C.s m.to) && decide (C.net.length < 100) then C.net ++ [m.reply] else C.net }
def Clu.acked (C : Clu) (m : Msg) : Clu := C.put m.to (({ C.s m.to with mat := (C.s m.to).mat.set m.frm (max ((C.s m.to).mat.getD m.frm 0) m.idx) } : Srv).adv m.to)
def Clu.del (C : Clu) (m : Msg) : Clu := if m.term < (C.s m.to).term then C else if m.kind = 1 then C.recv m else if m.term = (C.s m.to).term ∧ C.isL m.to = true then C.acked m else C
theorem Ok.recv (h : Ok C LL ack) (m : Msg) (hm : MOk C.srv.length C.lead.length C.ld LL ack m) (hk : m.kind = 1) (ht : (C.s m.to).term ≤ m.term) : ∃ ack', Nx C LL ack (C.recv m) LL ack' := by
  obtain ⟨_, kl, k3, k4, k5, k6, k7⟩ := hm.knd.resolve_right fun e => by rw [hk] at e; exact absurd e.1 (by decide)
  have gL := h.inv.gL m.term hm.t1 hm.tT
  have hlen := h.inv.len m.term hm.t1 hm.tT
  by_cases hf : m.fits (C.s m.to) = true
  · have hf2 := hf
    unfold Msg.fits at hf2
    rw [Bool.and_eq_true, Bool.or_eq_true] at hf2
    obtain ⟨f1, f2⟩ := hf2
    have f1 := of_decide_eq_true f1
    have hagree : (C.s m.to).log.take m.idx = (LL m.term).take m.idx := by
      rcases Nat.eq_zero_or_pos m.idx with h0 | h0
      · rw [h0]; rfl
      · have f2 := of_decide_eq_true (f2.resolve_left fun e => by have := of_decide_eq_true e; omega)
        rw [k5, if_neg (by omega)] at f2
        obtain ⟨x, hx⟩ : ∃ x, (LL m.term)[m.idx - 1]? = some x := ⟨_, List.getElem?_eq_getElem (by omega)⟩
        rw [hx] at f2
        cases hy : (C.s m.to).log[m.idx - 1]? with
        | none => rw [hy] at f2; cases f2
        | some y =>
          rw [hy] at f2
          have := (h.inv.gl m.to hm.to).agree gL hy hx (Option.some.inj f2)
          rw [show m.idx - 1 + 1 = m.idx by omega] at this
          exact this
    have hr := recv_spec gL m.ents (C.s m.to).log m.idx (h.inv.gl m.to hm.to) hagree f1 (by omega) k4
    obtain ⟨A, hA⟩ : ∃ A, A = max (ack m.term m.to) (m.idx + m.ents.length) := ⟨_, rfl⟩
    obtain ⟨b1, b2⟩ := h.inv.recv m hm hk ht (recvL (C.s m.to).log m.idx m.ents) (max (C.s m.to).com (min m.com (m.idx + m.ents.length))) A (.inr ⟨hA, rfl, hr⟩)
    have es : (C.recv m).s = upd C.s m.to { C.s m.to with term := m.term, com := max (C.s m.to).com (min m.com (m.idx + m.ents.length)), log := recvL (C.s m.to).log m.idx m.ents } := by
      have := put_s C m.to ((C.s m.to).take m) hm.to
      unfold Srv.take at this
      rw [if_pos hf] at this
      show (C.put m.to ((C.s m.to).take m)).s = _
      unfold Srv.take
      rw [if_pos hf]
      exact this
    rw [← es] at b1
    have hrep : MOk C.srv.length C.lead.length C.ld LL (updA ack m.term m.to A) m.reply := ⟨hm.to, hm.frm, fun e => hm.ne e.symm, hm.t1, hm.tT, .inr ⟨rfl, by
      show m.idx + m.ents.length ≤ updA ack m.term m.to A m.term m.to
      rw [updA_at, hA]; exact Nat.le_max_right _ _⟩⟩
    refine ⟨_, ⟨⟨?_, ?_, ?_, h.t2, h.t61, ?_⟩, b2, put_n .., Nat.le_refl _, fun v => ?_⟩⟩
    · show Inv (C.put m.to _).srv.length _ _ _ _ _ _
      rw [put_n]
      refine b1.msgs fun m2 hm2 => ?_
      by_cases hn : C.net.length < 100
      · have e : (C.recv m).net = C.net ++ [m.reply] := by
          show (if _ then _ else _) = _
          rw [if_pos (by rw [hf, decide_eq_true hn]; rfl)]
        rw [e] at hm2
        rcases List.mem_append.1 hm2 with g | g
        · exact b1.net m2 g
        · rw [List.mem_singleton.1 g]; exact hrep
      · have e : (C.recv m).net = C.net := by
          show (if _ then _ else _) = _
          rw [if_neg (by rw [hf, decide_eq_false hn]; decide)]
        rw [e] at hm2
        exact b1.net m2 hm2
    · show 1 ≤ (C.put m.to _).srv.length
      rw [put_n]; exact h.n1
    · show (C.put m.to _).srv.length ≤ 5
      rw [put_n]; exact h.n5
    · show (if _ then _ else _ : List Msg).length ≤ 100
      have := h.net
      split
      · rename_i hn
        rw [Bool.and_eq_true] at hn
        have := of_decide_eq_true hn.2
        rw [List.length_append, List.length_singleton]; omega
      · exact this
    · rw [es]
      unfold upd
      split
      · rename_i e; rw [e]; exact Nat.le_max_left _ _
      · exact Nat.le_refl _
  · obtain ⟨b1, b2⟩ := h.inv.recv m hm hk ht (C.s m.to).log (C.s m.to).com _ (.inl ⟨rfl, rfl, rfl⟩)
    have hf' : m.fits (C.s m.to) = false := by simpa using hf
    have es : (C.recv m).s = upd C.s m.to { C.s m.to with term := m.term, com := (C.s m.to).com, log := (C.s m.to).log } := by
      have := put_s C m.to ((C.s m.to).take m) hm.to
      unfold Srv.take at this
      rw [if_neg hf] at this
      show (C.put m.to ((C.s m.to).take m)).s = _
      unfold Srv.take
      rw [if_neg hf]
      exact this
    have en : (C.recv m).net = C.net := by
      show (if _ then _ else _) = _
      rw [hf']; rfl
    rw [← es] at b1
    refine ⟨_, ⟨⟨?_, ?_, ?_, h.t2, h.t61, ?_⟩, b2, put_n .., Nat.le_refl _, fun v => ?_⟩⟩
    · rw [en]
      show Inv (C.put m.to _).srv.length _ _ _ _ _ _
      rw [put_n]
      exact b1
    · show 1 ≤ (C.put m.to _).srv.length
      rw [put_n]; exact h.n1
    · show (C.put m.to _).srv.length ≤ 5
      rw [put_n]; exact h.n5
    · rw [en]; exact h.net
    · rw [es]
      unfold upd
      split
      · rename_i e; rw [e]; exact Nat.le_refl _
      · exact Nat.le_refl _
theorem Ok.acked (h : Ok C LL ack) (m : Msg) (hm : MOk C.srv.length C.lead.length C.ld LL ack m) (hk : ¬ m.kind = 1) (ht : m.term = (C.s m.to).term) (hd : C.isL m.to = true) : Nx C LL ack (C.acked m) LL ack := by
  obtain ⟨_, k2⟩ := hm.knd.resolve_left fun e => hk e.1
  have hd' : C.ld (C.s m.to).term = m.to := of_decide_eq_true hd
  obtain ⟨m1, m2⟩ := h.inv.mat m.to hm.to hd'
  have a3 := h.inv.adv m.to hm.to hd' ((C.s m.to).mat.set m.frm (max ((C.s m.to).mat.getD m.frm 0) m.idx)) (by rw [List.length_set]; exact m1) fun j hj => by
    simp only [List.getD]
    rw [List.getElem?_set]
    by_cases e : m.frm = j
    · rw [if_pos e, if_pos (by omega), Option.getD_some, ← e]
      have g1 := m2 m.frm hm.frm
      simp only [List.getD] at g1
      rw [← ht] at g1 ⊢
      exact Nat.max_le.2 ⟨g1, k2⟩
    · rw [if_neg e]; exact m2 j hj
  rw [← put_s _ _ _ hm.to] at a3
  refine ⟨⟨?_, ?_, ?_, h.t2, h.t61, h.net⟩, Ext.refl _ _ _ _, put_n .., Nat.le_refl _, fun v => ?_⟩
  · unfold Clu.acked; rw [put_n]; exact a3
  · unfold Clu.acked; rw [put_n]; exact h.n1
  · unfold Clu.acked; rw [put_n]; exact h.n5
  · unfold Clu.acked
    rw [put_s _ _ _ hm.to]
    unfold upd
    split
    · rename_i e; rw [e]; exact (adv_same ({ C.s m.to with mat := (C.s m.to).mat.set m.frm (max ((C.s m.to).mat.getD m.frm 0) m.idx) } : Srv) m.to).2.2.2
    · exact Nat.le_refl _
theorem Ok.del (h : Ok C LL ack) (m : Msg) (hm : MOk C.srv.length C.lead.length C.ld LL ack m) : ∃ ack', Nx C LL ack (C.del m) LL ack' := by
  unfold Clu.del
  split
  · exact ⟨_, h.refl⟩
  · split
    · exact h.recv m hm (by assumption) (by omega)
    · split
      · rename_i hx; exact ⟨_, h.acked m hm (by assumption) hx.1 hx.2⟩
      · exact ⟨_, h.refl⟩
/-- Deliver. -/
def Clu.deliver (C : Clu) (k : Nat) : Clu := if hk : k < C.net.length then (C.drop k).del C.net[k] else C
theorem Ok.deliver (h : Ok C LL ack) (k : Nat) : ∃ ack', Nx C LL ack (C.deliver k) LL ack' := by
  unfold Clu.deliver
  split
  · rename_i hk
    have h1 := h.drop k hk
    obtain ⟨ack', h2⟩ := h1.ok.del C.net[k] (h.inv.net _ (List.getElem_mem hk))
    exact ⟨ack', h1.trans h2⟩
  · exact ⟨_, h.refl⟩
end
end Go.Proofs.Ythhkekmeginooaa.Rp
